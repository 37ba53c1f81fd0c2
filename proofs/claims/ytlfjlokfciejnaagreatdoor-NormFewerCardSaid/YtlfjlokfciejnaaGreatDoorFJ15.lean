/- Texts of ours, joined and written short by a program of ours. -/
import Derived.Test.YtlfjlokfciejnaaGreatDoorFJ13
import Derived.Test.YtlfjlokfciejnaaGreatDoorFJ11
import Derived.Test.YtlfjlokfciejnaaGreatDoorFJ10
import Derived.Test.YtlfjlokfciejnaaGreatDoorFSrt
set_option maxRecDepth 20000
set_option maxHeartbeats 4000000
set_option linter.unusedVariables false
set_option linter.unusedSimpArgs false
namespace Go.Gr
open Go.Abs Go.Proofs
@[simp] theorem gu.get0(c:gu)(h:0<c.enc.length):c.enc[0]=.int .i64 c.kind:=by simp only[c.enc_eq];rfl
@[simp] theorem gu.get1(c:gu)(h:1<c.enc.length):c.enc[1]=.int .i64 c.n:=by simp only[c.enc_eq];rfl
@[simp] theorem gu.get7(c:gu)(h:7<c.enc.length):c.enc[7]=.sl false 8 (c.kids.map gu.enc):=by simp only[c.enc_eq];rfl
theorem yj{ts:List (Nat × Nat)}(h:ts.length=([]:List Blk).length):ts=[]:=by simpa using h
theorem yA(c:gu):kC c=1+jc c.kids:=by cases c;rw[kC];try rfl
theorem GA:∀l:List gu,l.length<=jc l
|[]=>by simp
|c::l=>by
 have:=GA l;have:=yA c;rw[jc,List.length_cons];omega
theorem zGU(l:List gu)(hl:l.length<=1000000000):MCall Pg 39 [.c (.d (.sl false 8 (l.map gu.enc)))] [] (.c (.msl 8 0 0 l.length)) [.arr 8 ((l.map gu.enc).map (·.map .d))]:=by
 refine zq9 ⟨by simp,by simp,by simp,by simp,by simp,by simp[live],by simp⟩ λts hts ok hb c hN hp=>?_;obtain rfl:=yj hts;unfold XC;cases l with
 | nil=>
  simp;refine⟨fU [.t 2] ?_,fU [] ?_⟩
  ·simp;exact fK [0] []
  ·simp;exact fK [0] []
 |cons x l=>
  simp;refine⟨by simp at hl;omega,?_⟩;refine fU [] ?_;simp;exact fK [0] []
abbrev yl(c:gu)(x:AC):List AC:=[.d (.int .i64 c.kind),.d (.int .i64 c.n),.d (.str c.text),.d (.sl false 1 (encI c.ints)),.d (.sl false 1 (encS c.names)),.d (.sl false 4 (c.types.map gT.enc)),.d (.sl false 5 (c.cos.map gY.enc)),x]
theorem zJD(c:gu)(x:AC):put (c.enc.map AC.d) 7 [x]=yl c x:=by
 rw[c.enc_eq];try rfl
theorem St.cut7{F:St->Prop}{t:List (Nat × AV)}{m:Hp}{n:Nat}(ts:List (Nat × AV))(bs:List Blk)(ht:∀p,p∈ts->Abs.look t p.1=p.2)(hm:∀i,m i=hpOf bs i)(h:∀T,(∀p,p∈ts->Abs.look T p.1=p.2)->F ⟨T,hpOf bs,n⟩):F ⟨t,m,n⟩:=by
 have e:m=hpOf bs:=funext hm;subst e;exact h t ht
theorem EE{m:Nat}{k:Int}(h5:k≠5):∀{l:List gu} {i j:Nat} (h:j<l.length),jf m k l i->lQ (if k=18 then m+(i+j)else m) l[j]
|c::l,i,0,h,hw=>by
 rw[jf,aB h5]at hw;exact hw.1
|c::l,i,j+1,h,hw=>by
 rw[jf]at hw;have:=EE h5 (i:=i+1) (j:=j) (by simpa using h) hw.2;rw[show i+1+j=i+(j+1)from by omega]at this;exact this
theorem zW:∀{l:List gu} {j:Nat} (h:j<l.length),j+kC l[j]<=jc l
|c::l,0,h=>by rw[jc];simp
|c::l,j+1,h=>by
 have:=zW (l:=l) (j:=j) (by simpa using h);have:=yA c;rw[jc];simp only[List.getElem_cons_succ];omega
@[simp] theorem jb.get0(f:jb)(h:0<f.enc.length):f.enc[0]=.str f.name:=rfl
theorem jb.enc_eq(f:jb):f.enc=.str f.name::(f.type.enc++f.body.enc):=rfl
@[simp] theorem jb.cut_body(f:jb):cut (f.enc.map AC.d) 5 8=f.body.enc.map .d:=by unfold jb.enc;rw[f.type.enc_eq,f.body.enc_eq];try rfl
@[simp] theorem jb.cut_bodyD(f:jb):cut f.enc 5 8=f.body.enc:=by unfold jb.enc;rw[f.type.enc_eq,f.body.enc_eq];try rfl
theorem zFT(l:List jb)(hl:l.length<=1000000000):MCall Pg 18 [.c (.d (.sl false 13 (l.map jb.enc)))] [] (.c (.msl 13 0 0 l.length)) [.arr 13 ((l.map jb.enc).map (·.map .d))]:=by
 refine zry ⟨by simp,by simp,by simp,by simp,by simp,by simp[live],by simp⟩ λts hts ok hb c hN hp=>?_;obtain rfl:=yj hts;unfold XD;cases l with
 | nil=>
  simp;refine⟨fU [.t 2] ?_,fU [] ?_⟩
  ·simp;exact fK [0] []
  ·simp;exact fK [0] []
 |cons x l=>
  simp;refine⟨by simp at hl;omega,?_⟩;refine fU [] ?_;simp;exact fK [0] []
def Nq:List Nat:=[2,3,5]
def XE:MC:=(λx(_:x=gC tt [] [(6,[0,1,0,7,15,0,32,0,224,480,1023])] [] (iP 0 (gB Tryz.f25)))=>x) _ (by dsimp[Tryz.f25])
def Nr:List Nat:=[2,3,6]
def XF:MC:=(λx(_:x=gC tt [] [(11,[0,1,0,7,15,0,32,0,224,480,1023])] [] (iP 2 (gB Tryz.f25)))=>x) _ (by dsimp[Tryz.f25])
def Ns:List Nat:=[2,3,7]
def XG:MC:=(λx(_:x=gC tt [] [(16,[0,1,0,7,15,0,32,0,224,480,1023])] [] (iP 4 (gB Tryz.f25)))=>x) _ (by dsimp[Tryz.f25])
def Nt:List Nat:=[2,3,8]
def XH:MC:=(λx(_:x=gC tt [] [(21,[0,1,0,7,15,0,32,0,224,480,1023,2047])] [] (iP 6 (gB Tryz.f25)))=>x) _ (by dsimp[Tryz.f25])
def Nu:List Nat:=[2,3,10]
def XI:MC:=(λx(_:x=gC tt [] [(27,[0,1,0,7,15,0,32,0,224,480,1023,2047])] [] (iP 8 (gB Tryz.f25)))=>x) _ (by dsimp[Tryz.f25])
def XJ:MC:=(λx(_:x=gC tt [] [] [(0,XE),(2,XF),(4,XG),(6,XH),(8,XI)] (gB Tryz.f25))=>x) _ (by dsimp[Tryz.f25])
theorem zk7:WT Pg 25 149 XJ [.tmp 4]:=wT gy Tryz.func25 (by kernel_rfl)
def XK:MC:=(λx(_:x=gC tt [] [(1,[0,0,3,7])] [] (gB Tryz.f26))=>x) _ (by dsimp[Tryz.f26])
theorem zk8:WT Pg 26 6 XK [.tmp 2]:=wT gy Tryz.func26 (by kernel_rfl)
def XL:MC:=(λx(_:x=gC tt [(1,1)] [] [] (gB Tryz.f43))=>x) _ (by dsimp[Tryz.f43])
theorem zm4:WT Pg 43 3 XL [.cell 0 true 5]:=wT gy Tryz.func43 (by kernel_rfl)
@[simp] theorem gu.get5(c:gu)(h:5<c.enc.length):c.enc[5]=.sl false 4 (c.types.map gT.enc):=by simp only[c.enc_eq];rfl
@[simp] theorem gu.get6(c:gu)(h:6<c.enc.length):c.enc[6]=.sl false 5 (c.cos.map gY.enc):=by simp only[c.enc_eq];rfl
end Go.Gr
namespace Go.Gr
open Go.Abs Go.Proofs List
mutual
def jW:gY->gY->Bool
|.mk t n s f g,.mk t' n' s' f' g'=>decide (t=t')&&(decide (n=n')&&(decide (s=s')&&(tY f f'&&tY g g')))
def tY:List gY->List gY->Bool
|[],[]=>true
|a::l,b::k=>jW a b&&tY l k
|_,_=>false
end
def idC:gY:=.mk [0,0,0,0,0,0] [] [] [] []
theorem zbe:gU Pg 43 [] (.agg idC.enc):=by
 refine zm4 (by simp) λo c hN hp=>?_;unfold XL;simp[idC,gY.enc,encI,iI,encS,gY.encs]
def lF{α:Type}(q:α->α->Bool):List α->List α->Bool
|[],[]=>true
|a::l,b::k=>q a b&&lF q l k
|_,_=>false
theorem Nv{α:Type}(q:α->α->Bool):∀{a b:List α},a.length≠b.length->lF q a b=false
|[],[],h=>by simp at h
|[],_::_,h=>rfl
|_::_,[],h=>rfl
|a::l,b::k,h=>by simp only[lF];rw[Nv q (a:=l) (b:=k) (by simpa using h)];simp
theorem GD:∀(a b:List gY),tY a b=lF jW a b
|[],[]=>by simp[tY,lF]
|[],_::_=>by simp[tY,lF]
|_::_,[]=>by simp[tY,lF]
|a::l,b::k=>by simp[tY,lF,GD l k]
theorem Nw(a b:gY):jW a b=(decide (a.tags=b.tags)&&(decide (a.needs=b.needs)&&(decide (a.names=b.names)&&(lF jW a.fields b.fields&&lF jW a.fn b.fn)))):=by
 cases a;cases b;simp only[jW,GD];rfl
theorem Ny{α:Type}{a b:List α}{j:Nat}(ha:j<a.length)(hb:j<b.length)(h:a.take j=b.take j)(e:a[j]=b[j]):a.take (j+1)=b.take (j+1):=by
 rw[aJ ha,aJ hb,h,e]
theorem Nz{α:Type}{a b:List α}{j:Nat}(ha:j=a.length)(hb:a.length=b.length)(h:a.take j=b.take j):a=b:=by
 subst ha;rw[bO,aG (by omega)]at h;exact h
theorem XM{α:Type}(q:α->α->Bool):∀{a b:List α} {j:Nat},a.length<=j->a.length=b.length->lF q (a.drop j) (b.drop j)=true
|a,b,j,h,e=>by rw[bE h,bE (by omega)];try rfl
theorem zmr(a b:gY)(ih:∀x,x∈a.fields\/x∈a.fn->∀y,gU Pg 25 [.agg x.enc,.agg y.enc] (.one (.bool (jW x y)))):gU Pg 25 [.agg a.enc,.agg b.enc] (.one (.bool (jW a b))):=by
 have e:=Nw a b;rw[gY.enc_eq a,gY.enc_eq b];refine zk7 (by simp) λo c hN hp=>?_;have hl:a.tags.length<=zah/\a.needs.length<=zah/\a.names.length<=zah/\a.fields.length<=zah/\a.fn.length<=zah:=by
  have:=o.1;simp only[DV.ok,D.okL,D.ok,SY,S9,Di,aU]at this;exact⟨this.1.1,this.2.1.1,this.2.2.1.1,this.2.2.2.1.1,this.2.2.2.2.1.1⟩
 unfold zah at hl;obtain⟨l1,l2,l3,l4,l5⟩:=hl;unfold XJ;simp;have f1:a.tags.length≠b.tags.length->decide (a.tags=b.tags)=false:=λh=>bX λe=>h (by rw[e]);have f2:a.needs.length≠b.needs.length->decide (a.needs=b.needs)=false:=λh=>bX λe=>h (by rw[e]);have f3:a.names.length≠b.names.length->decide (a.names=b.names)=false:=λh=>bX λe=>h (by rw[e]);have f4:a.fields.length≠b.fields.length->lF jW a.fields b.fields=false:=Nv _;have f5:a.fn.length≠b.fn.length->lF jW a.fn b.fn=false:=Nv _;apply gM<;>intro h1;rotate_left
 ·have h1:a.tags.length≠b.tags.length:=by simp at h1;omega
  simp[e,f1 h1]
 have h1:a.tags.length=b.tags.length:=by simp at h1;omega
 apply gM<;>intro h2;rotate_left
 ·have h2:a.needs.length≠b.needs.length:=by simp at h2;omega
  simp[e,f2 h2]
 have h2:a.needs.length=b.needs.length:=by simp at h2;omega
 apply gM<;>intro h3;rotate_left
 ·have h3:a.names.length≠b.names.length:=by simp at h3;omega
  simp[e,f3 h3]
 have h3:a.names.length=b.names.length:=by simp at h3;omega
 apply gM<;>intro h4;rotate_left
 ·have h4:a.fields.length≠b.fields.length:=by simp at h4;omega
  simp[e,f4 h4]
 have h4:a.fields.length=b.fields.length:=by simp at h4;omega
 apply gM<;>intro h5
 ·have h5:a.fn.length≠b.fn.length:=by simp at h5;omega
  simp[e,f5 h5]
 have h5:a.fn.length=b.fn.length:=by simp at h5;omega
 refine fP gy hp Nq [5] (λj:Nat=>j<=a.tags.length/\a.tags.take j=b.tags.take j) (λj=>[.c (.d (.int .i64 j))]) (λ_=>[]) (λj=>a.tags.length-j) 0 [] (by simp) (by simp[Nq]) λj ⟨g1,g2⟩=>?_;unfold XE Nq;simp;apply gM<;>intro h
 ·have hj:j<a.tags.length:=by simpa using h
  have hj':j<b.tags.length:=by omega
  simp[aA hj,aA hj'];refine⟨by decide,gM (λh=>?_) (λh=>?_)⟩
  ·simp at h;have:decide (a.tags=b.tags)=false:=bX λe=>h (getElem_of_eq e _);rw[e,this];try rfl
  ·simp at h;exact fF (j+1) [] ⟨by omega,Ny hj hj' g2 h⟩ (by omega) (by simp;exact wI)
 have hj:j=a.tags.length:=by simp at h;omega
 have d1:=Nz hj h1 g2;refine fP gy hp Nr [6] (λj:Nat=>j<=a.needs.length/\a.needs.take j=b.needs.take j) (λj=>[.c (.d (.int .i64 j))]) (λ_=>[]) (λj=>a.needs.length-j) 0 [] (by simp) (by simp[Nr]) λj ⟨g1,g2⟩=>?_;unfold XF Nr;simp;apply gM<;>intro h
 ·have hj:j<a.needs.length:=by simpa using h
  have hj':j<b.needs.length:=by omega
  simp[iI,aA hj,aA hj'];refine⟨by decide,gM (λh=>?_) (λh=>?_)⟩
  ·have:decide (a.needs=b.needs)=false:=bX λe=>by
    have:=getElem_of_eq e hj;rw[this]at h;simp at h
   rw[e,this,Bool.false_and,Bool.and_false]
  ·simp at h;exact fF (j+1) [] ⟨by omega,Ny hj hj' g2 (Prod.ext h.1 h.2)⟩ (by omega) (by simp;exact wI)
 have hj:j=a.needs.length:=by simp at h;omega
 have d2:=Nz hj h2 g2;refine fP gy hp Ns [7] (λj:Nat=>j<=a.names.length/\a.names.take j=b.names.take j) (λj=>[.c (.d (.int .i64 j))]) (λ_=>[]) (λj=>a.names.length-j) 0 [] (by simp) (by simp[Ns]) λj ⟨g1,g2⟩=>?_;unfold XG Ns;simp;apply gM<;>intro h
 ·have hj:j<a.names.length:=by simpa using h
  have hj':j<b.names.length:=by omega
  simp[aA hj,aA hj'];refine⟨by decide,gM (λh=>?_) (λh=>?_)⟩
  ·simp at h;have:decide (a.names=b.names)=false:=bX λe=>h (getElem_of_eq e _);rw[e,this,Bool.false_and,Bool.and_false,Bool.and_false]
  ·simp at h;exact fF (j+1) [] ⟨by omega,Ny hj hj' g2 h⟩ (by omega) (by simp;exact wI)
 have hj:j=a.names.length:=by simp at h;omega
 have d3:=Nz hj h3 g2;have e:jW a b=(lF jW a.fields b.fields&&lF jW a.fn b.fn):=by rw[e,dJ d1,dJ d2,dJ d3];try rfl
 refine fP gy hp Nt [8] (λj:Nat=>j<=a.fields.length/\lF jW (a.fields.drop j) (b.fields.drop j)=lF jW a.fields b.fields) (λj=>[.c (.d (.int .i64 j))]) (λ_=>[]) (λj=>a.fields.length-j) 0 [] (by simp) (by simp[Nt]) λj ⟨g1,g2⟩=>?_;unfold XH Nt;simp;apply gM<;>intro h
 ·have hj:j<a.fields.length:=by simpa using h
  have hj':j<b.fields.length:=by omega
  rw[aD hj,aD hj',lF]at g2;simp[aA hj,aA hj'];refine gQ (ih _ (.inl (aR hj)) _) ?_;simp;refine⟨by decide,gM (λh=>?_) (λh=>?_)⟩
  ·simp at h;rw[h,Bool.false_and]at g2;rw[e,<-g2];try rfl
  ·simp at h;rw[h,Bool.true_and]at g2;exact fF (j+1) [] ⟨by omega,g2⟩ (by omega) (by simp;exact wI)
 have hj:j=a.fields.length:=by simp at h;omega
 have e:jW a b=lF jW a.fn b.fn:=by rw[e,<-g2,XM jW (by omega) h4];try rfl
 refine fP gy hp Nu [10] (λj:Nat=>j<=a.fn.length/\lF jW (a.fn.drop j) (b.fn.drop j)=lF jW a.fn b.fn) (λj=>[.c (.d (.int .i64 j))]) (λ_=>[]) (λj=>a.fn.length-j) 0 [] (by simp) (by simp[Nu]) λj ⟨g1,g2⟩=>?_;unfold XI Nu;simp;apply gM<;>intro h
 ·have hj:j<a.fn.length:=by simpa using h
  have hj':j<b.fn.length:=by omega
  rw[aD hj,aD hj',lF]at g2;simp[aA hj,aA hj'];refine gQ (ih _ (.inr (aR hj)) _) ?_;simp;refine⟨by decide,gM (λh=>?_) (λh=>?_)⟩
  ·simp at h;rw[h,Bool.false_and]at g2;rw[e,<-g2]
  ·simp at h;rw[h,Bool.true_and]at g2;exact fF (j+1) [] ⟨by omega,g2⟩ (by omega) (by simp;exact wI)
 have hj:j=a.fn.length:=by simp at h;omega
 have e:jW a b=true:=by rw[e,<-g2,XM jW (by omega) h5]
 simp[e]
mutual
theorem XN:∀(a b:gY),gU Pg 25 [.agg a.enc,.agg b.enc] (.one (.bool (jW a b)))
|.mk t n s f g,b=>zmr _ b λx hx y=>hx.elim (λh=>OA f x h y) (λh=>OA g x h y)
theorem OA:∀(l:List gY) (x:gY),x∈l->∀y,gU Pg 25 [.agg x.enc,.agg y.enc] (.one (.bool (jW x y)))
|c::l,x,h,y=>by
 cases aN.1 h with
 |inl e=>rw[e];exact XN c y
 |inr e=>exact OA l x e y
end
theorem zbP(a:gY):gU Pg 26 [.agg a.enc] (.one (.bool (jW a idC))):=by
 refine zk8 (by simp) λo c hN hp=>?_;unfold XK;simp;refine gQ zbe ?_;simp;refine gQ (XN a idC) ?_;simp;decide
def Bb(a b:fE):Bool:=Op.bytesLess a.data.toList b.data.toList||decide (a=b)
def wU:List fE->Bool
|a::b::l=> !Bb b a&&wU (b::l)
|_=>true
theorem XO:∀{l:List fE} {i:Nat} (h:i+1<l.length),Bb l[i+1] l[i]=true->wU l=false
|a::b::l,0,h,e=>by
 simp only[getElem_cons_succ,getElem_cons_zero]at e;simp[wU,e]
|a::b::l,i+1,h,e=>by
 have:=XO (l:=b::l) (i:=i) (by simpa using h) (by simpa using e);simp[wU,this]
|[],_,h,_=>by simp at h
|[_],_,h,_=>by simp at h
theorem XP:∀{l:List fE},(∀i (h:i+1<l.length),Bb l[i+1] l[i]=false)->wU l=true
|[],_=>rfl
|[_],_=>rfl
| a::b::l,H=>by
 have h0:=H 0 (by simp);simp only[getElem_cons_succ,getElem_cons_zero]at h0;have:=XP (l:=b::l) λi h=>by
  have:=H (i+1) (by simpa using h);simpa only[getElem_cons_succ]using this
 simp[wU,h0,this]
def GG(l:List (fE × Int))(j:Nat):Prop:=∀i (h:i<l.length),i<j->l[i].2≠0/\∀k (hk:k<i),l[k].1≠l[i].1
def vY:List fE->List (fE × Int)->Bool
|_,[]=>true
|seen,x::l=>decide (x.2≠0)&&(!(seen.any λy=>decide (y=x.1))&&vY (x.1::seen) l)
theorem OB:∀(l:List (fE × Int)) (seen:List fE),vY seen l=true↔(∀i (h:i<l.length),l[i].1∉seen)/\GG l l.length
|[],seen=>by simp[vY,GG]
| x ::l,seen=>by
 have hm:(!(seen.any λy=>decide (y=x.1)))=true↔x.1∉seen:=by
  simp;exact⟨λh hx=>h _ hx rfl,λh y hy e=>h (e▸hy)⟩
 simp only[vY,aF,aI];rw[OB l (x.1::seen),hm];constructor
 ·rintro⟨h1,h2,h3,h4⟩
  refine⟨λi h=>?_,λi h hj=>?_⟩
  ·cases i with
   |zero=>exact h2
   |succ i=>have:=h3 i (by simpa using h);simp only[aN,dU]at this;exact this.2
  ·cases i with
   |zero=>exact⟨h1,λk hk=>by omega⟩
   |succ i=>
    have h':i<l.length:=by simpa using h
    have:=h4 i h' h';refine⟨this.1,λk hk=>?_⟩;cases k with
    |zero=>have:=h3 i h';simp only[aN,dU]at this;exactλe=>this.1 e.symm
    |succ k=>exact this.2 k (by omega)
 ·rintro⟨h1,h2⟩
  refine⟨(h2 0 (by simp) (by simp)).1,h1 0 (by simp),λi h=>?_,λi h hj=>?_⟩
  ·simp only[aN,dU];exact⟨λe=>(h2 (i+1) (by simpa using h) (by simpa using h)).2 0 (by omega) e.symm,h1 (i+1) (by simpa using h)⟩
  ·have:=h2 (i+1) (by simpa using h) (by simpa using h);exact⟨this.1,λk hk=>this.2 (k+1) (by omega)⟩
theorem zjT{l:List (fE × Int)}(h:GG l l.length):vY [] l=true:=(OB l []).2 ⟨λ_ _=>by simp,h⟩
theorem XQ{l:List (fE × Int)}(h:¬GG l l.length):vY [] l=false:=by
 cases e:vY [] l with
 |false=>rfl
 |true=>exact absurd ((OB l []).1 e).2 h
def iE(d:gY)(k:Nat):Int:=d.tags.getD k 0
def vZ(d:gY):Bool:=
 decide (d.tags.length=6/\d.names.length=d.fields.length/\(d.fn.length=0\/d.fn.length=2))&&
 (decide (¬(iE d 4≠0/\0<d.names.length\/iE d 5≠0/\0<d.fn.length))&&(vY [] d.needs&&wU d.names))
mutual
def iY:gY->Bool
|.mk t n s f g=>vZ (.mk t n s f g)&&(GH f&&Ag g)
def GH:List gY->Bool
|[]=>true
|c::l=>(iY c&& !jW c idC)&&GH l
def Ag:List gY->Bool
|a::b::_=>iY a&&(iY b&& !(jW a idC&&jW b idC))
|_=>true
end
theorem XR:∀l:List gY,GH l=l.all λc=>iY c&& !jW c idC
|[]=>by simp[GH]
|c::l=>by simp[GH,XR l]
theorem XT(d:gY):iY d=(vZ d&&((d.fields.all λc=>iY c&& !jW c idC)&&Ag d.fn)):=by
 cases d;simp only[iY,XR,gY.fields,gY.fn]
theorem XU:∀(x y:List UInt8),decide (0<=Lib.compareBytes x y)=(Op.bytesLess y x||decide (y=x))
|[],[]=>by simp[Lib.compareBytes]
|[],b::y=>by simp[Lib.compareBytes,Op.bytesLess]
|a::x,[]=>by simp[Lib.compareBytes,Op.bytesLess]
| a::x,b::y=>by
 have ih:=XU x y;simp only[Lib.compareBytes,Op.bytesLess];by_cases h1:a<b
 ·have h2:¬b<a:=λh=>absurd (UInt8.lt_trans h1 h) (fA _);have h3:¬b=a:=λh=>by rw[h]at h1;exact fA _ h1
  simp[h1,h2,h3]
 ·by_cases h2:b<a
  ·simp[h1,h2]
  ·have h3:b=a:=UInt8.le_antisymm (UInt8.not_lt.1 h1) (UInt8.not_lt.1 h2);subst h3;simp only[h1,if_false,ih];simp
theorem zIv(a b:fE):Bb a b=decide (0<=Lib.compareBytes b.data.toList a.data.toList):=by
 rw[XU];unfold Bb;congr 1;rw[dP];simp only[aI];constructor
 ·intro h;rw[h]
 ·intro h;exact Go.WideShapes.bytes_inj h
def nS(l:List (fE × Int)):List (D × AV):=l.map λx=>(.str x.1,.c (.d (.bool true)))
theorem XV(s:fE):∀(l:List (fE × Int)) (i:Nat),(∀x,x∈l->s≠x.1)->kG 1 (.str s) (nS l) i=some none
|[],i,_=>rfl
|x::l,i,h=>by
 have h0:=h x (by simp);have ih:=XV s l (i+1) λy hy=>h y (by simp[hy]);simp only[nS]at ih;simp[nS,h0,ih]
theorem XW(s:fE):∀(l:List (fE × Int)) (i:Nat),(∃x,x∈l/\s=x.1)->∃k,kG 1 (.str s) (nS l) i=some (some (k,.c (.d (.bool true))))
|[],i,h=>by obtain⟨x,hx,_⟩:=h;cases hx
| x::l,i,h=>by
 by_cases h0:s=x.1
 ·exact⟨i,by simp[nS,h0]⟩
 ·obtain⟨y,hy,e⟩:=h;have:∃y,y∈l/\s=y.1:=by
   cases aN.1 hy with
   |inl h=>subst h;exact absurd e h0
   |inr h=>exact⟨y,h,e⟩
  obtain⟨k,hk⟩:=XW s l (i+1) this;simp only[nS]at hk;exact⟨k,by simp[nS,h0,hk]⟩
theorem zGX(f:Nat->Nat)(l:List (fE × Int)):(nS l).map (λe=>(e.1,AV.ren f e.2))=nS l:=by simp[nS]
theorem zCj(l:List (fE × Int))(x:fE × Int):nS (l++[x])=nS l++[(.str x.1,.c (.d (.bool true)))]:=by simp[nS]
theorem zH7{n:Nat}{l:List (fE × Int)}{a:D}{b:AV}(h:(a,b)∈nS l):AV.lt n b=true:=by
 simp only[nS,ae]at h;obtain⟨x,_,e⟩:=h;cases e;simp
@[simp] theorem gY.er_map(d:gY):d.enc.map D.er=d.enc:=by rw[gY.enc_eq];try rfl
def qd:List Int:=[0,0,0,0,0,0]
def zX(x:fE × Int):List D:=[.str x.1,.int .i64 x.2]
def ix{α:Type}(q:α->Bool):Nat->List α->Int
|_,[]=> -1
|j,x::l=>if q x=true then(j:Int)else ix q (j+1) l
theorem XX{α:Type}(q:α->Bool):∀(j:Nat) (l:List α),decide (0<=ix q j l)=l.any q
|_,[]=>by simp[ix]
| j,x::l=>by
 have ih:=XX q (j+1) l;simp only[ix,any_cons];split
 ·rename_i h;rw[h,fC];simp
 ·rename_i h;rw[aK]at h;rw[h,eQ];exact ih
def oZ(a b:List (fE × Int)):List (fE × Int):=a++b.filter λn=> !a.any λm=>decide (m.1=n.1)
def jO(c:gY):gY × gY:=match c.fn with
|f::g::_=>(f,g)
|_=>(idC,idC)
def nC(f g:gY):List gY:=if(jW f idC&&jW g idC)=true then []else [f,g]
end Go.Gr
namespace Go.Gr
open Go.Abs Go.Proofs Go.RowKit List
end Go.Gr
namespace Go.Gr
open Go.Abs Go.Proofs List
def xZ:gY:=.mk [] [] [] [] []
def rZ(l:List (fE × gY))(k:fE):gY:=match l with
|[]=>xZ
|x::l=>if k=x.1 then x.2 else rZ l k
def kN(l:List (fE × gY))(ks:List fE):List (fE × gY):=(ks.map λk=>(k,rZ l k)).filter λx=> !jW x.2 idC
theorem XY{l:List (fE × gY)}{ks:List fE}{j:Nat}(h:j<ks.length):kN l (ks.take (j+1))=kN l (ks.take j)++if jW (rZ l ks[j]) idC=true then []else [(ks[j],rZ l ks[j])]:=by
 unfold kN;rw[aJ h,map_append,dH];by_cases q:jW (rZ l ks[j]) idC=true<;>simp[q]
theorem XZ(l:List (fE × gY))(ks:List fE):(kN l ks).length<=ks.length:=by
 unfold kN;exact ak (bS _ _) (by simp)
theorem JA{l:List fE}{k:fE}:k∈zco l↔k∈l:=by
 unfold zco;simp only[ae,mem_mergeSort];constructor
 ·rintro⟨x,⟨s,hs,rfl⟩,rfl⟩
  simpa using hs
 ·intro h;exact⟨_,⟨k,h,rfl⟩,by simp⟩
end Go.Gr
namespace Go.Gr
open Go.Abs
def jl(a b:fE):Prop:=a.data.toList<b.data.toList
instance ltBDec (a b:fE):Decidable (jl a b):=inferInstanceAs (Decidable (a.data.toList<b.data.toList))
theorem JB:∀(x y:List UInt8),Op.bytesLess x y=decide (x<y)
|[],[]=>by simp[Op.bytesLess]
|_::_,[]=>by simp[Op.bytesLess]
|[],_::_=>by simp[Op.bytesLess]
| a::x,b::y=>by
 rw[Op.bytesLess,JB x y];by_cases h1:a<b
 ·simp[h1,eG]
 ·by_cases h2:b<a
  ·have:¬a=b:=λe=>by rw[e]at h2;exact fA _ h2
   simp[h1,h2,this,eG]
  ·have:a=b:=UInt8.le_antisymm (UInt8.not_lt.1 h2) (UInt8.not_lt.1 h1);simp[this,eG,fA]
theorem Bc(a:fE):¬jl a a:=List.lt_irrefl _
theorem zY{a b c:fE}(h:jl a b)(k:jl b c):jl a c:=List.lt_trans h k
theorem EF{a b:fE}(h:a≠b):jl a b\/jl b a:=by
 by_cases h1:jl a b
 ·exact .inl h1
 ·by_cases h2:jl b a
  ·exact .inr h2
  ·have:a.data.toList=b.data.toList:=List.le_antisymm h2 h1;exact absurd (Go.WideShapes.bytes_inj this) h
theorem zod(a b:fE):(!Bb b a)=decide (jl a b):=by
 unfold Bb jl;rw[JB];by_cases h:a=b
 ·subst h;simp[List.lt_irrefl]
 ·have h':¬b=a:=λe=>h e.symm;rcases EF h with q|q
  ·have:¬jl b a:=λe=>Bc _ (zY q e);unfold jl at q this;simp[h',q,this]
  ·have:¬jl a b:=λe=>Bc _ (zY q e);unfold jl at q this;simp[h',q,this]
theorem X0:∀{l:List fE},wU l=true↔l.Pairwise jl
|[]=>by simp[wU]
|[a]=>by simp[wU]
| a::b::l=>by
 rw[wU,zod,aF,aI,X0 (l:=b::l)];constructor
 ·rintro⟨h1,h2⟩
  refine List.Pairwise.cons (λc hc=>?_) h2;cases aN.1 hc with
  |inl e=>rw[e];exact h1
  |inr e=>exact zY h1 (List.rel_of_pairwise_cons h2 e)
 ·intro h;exact⟨List.rel_of_pairwise_cons h (by simp),h.of_cons⟩
theorem sG{l:List fE}(h:l.Pairwise jl):l.Nodup:=h.imp λh e=>by rw[e]at h;exact Bc _ h
theorem X3{l k:List fE}(h1:l.Pairwise jl)(h2:k.Pairwise jl)(h:∀x,x∈l↔x∈k):l=k:=
 List.Perm.eq_of_pairwise (le:=jl) (λa b _ _ p q=>absurd (zY p q) (Bc _)) h1 h2 ((List.perm_ext_iff_of_nodup (sG h1) (sG h2)).2 h)
theorem X4{l:List fE}(hn:l.Nodup):(zco l).Pairwise jl:=by
 have tr:∀a b c:List UInt8,decide (a<=b)=true->decide (b<=c)=true->decide (a<=c)=true:=λa b c h1 h2=>by simp only[aI]at*;exact List.le_trans h1 h2
 have to:∀a b:List UInt8,(decide (a<=b)||decide (b<=a))=true:=λa b=>by simp only[dA,aI];exact List.le_total a b
 have h1:=List.pairwise_mergeSort tr to (l.map λs=>s.data.toList);have h2:((l.map λs=>s.data.toList).mergeSort λx y=>decide (x<=y)).Nodup:=by
  refine(List.mergeSort_perm _ _).nodup_iff.2 ?_;refine List.pairwise_map.2 (hn.imp λh e=>h (Go.WideShapes.bytes_inj e))
 unfold zco;rw[List.pairwise_map];refine(h1.and h2).imp λ{a b} ⟨p,q⟩=>?_;simp only[aI]at p;unfold jl;simp only;rcases EF (a:=⟨a.toArray⟩) (b:=⟨b.toArray⟩) (λe=>q (by simpa using dO (λx:fE=>x.data.toList) e))with r|r
 ·exact r
 ·exact absurd r p
mutual
theorem Ah:∀(a b:gY),jW a b=true↔a=b
|.mk t n s f g,.mk t' n' s' f' g'=>by
 simp only[jW,aF,aI,gY.mk.injEq];rw[OC f f',OC g g']
theorem OC:∀(a b:List gY),tY a b=true↔a=b
|[],[]=>by simp[tY]
|[],_::_=>by simp[tY]
|_::_,[]=>by simp[tY]
|a::l,b::k=>by
 simp only[tY,aF,dZ];rw[Ah a b,OC l k]
end
theorem GI{a b:gY}:jW a b=false↔a≠b:=by
 rw[<-aK,Ah]
theorem JC(a:gY):jW a a=true:=(Ah a a).2 rfl
theorem zk1(l:List (fE × Int)):vY [] l=true↔(∀x,x∈l->x.2≠0)/\(l.map (·.1)).Nodup:=by
 have key:∀(l:List (fE × Int)) (seen:List fE),vY seen l=true↔(∀x,x∈l->x.2≠0/\x.1∉seen)/\(l.map (·.1)).Nodup:=by
  intro l
  induction l with
  |nil=>intro seen;simp[vY]
  | cons x l ih=>
   intro seen;have hm:(!(seen.any λy=>decide (y=x.1)))=true↔x.1∉seen:=by
    simp;exact⟨λh hx=>h _ hx rfl,λh y hy e=>h (e▸hy)⟩
   simp only[vY,aF,aI];rw[ih,hm];simp only[List.map_cons,bV,aN,dU];constructor
   ·rintro⟨h1,h2,h3,h4⟩
    refine⟨λy hy=>?_,λh=>?_,h4⟩
    ·rcases hy with rfl|hy
     ·exact⟨h1,h2⟩
     ·exact⟨(h3 y hy).1,(h3 y hy).2.2⟩
    ·obtain⟨y,hy,e⟩:=ae.1 h;exact(h3 y hy).2.1 e
   ·rintro⟨h1,h2,h3⟩
    refine⟨(h1 x (.inl rfl)).1,(h1 x (.inl rfl)).2,λy hy=>⟨(h1 y (.inr hy)).1,λe=>h2 ?_,(h1 y (.inr hy)).2⟩,h3⟩;exact ae.2 ⟨y,hy,e⟩
 rw[key];simp
theorem gY.ext'{a b:gY}(h1:a.tags=b.tags)(h2:a.needs=b.needs)(h3:a.names=b.names)(h4:a.fields=b.fields)(h5:a.fn=b.fn):a=b:=by
 cases a;cases b;simp only[gY.tags,gY.needs,gY.names,gY.fields,gY.fn]at*
 subst h1 h2 h3 h4 h5;rfl
structure May (d:gY):Prop where
 tags:d.tags.length=6
 len:d.names.length=d.fields.length
 fn:d.fn=[]\/∃f g,d.fn=[f,g]/\iY f=true/\iY g=true/\¬(f=idC/\g=idC)
 t4:iE d 4≠0->d.names=[]
 t5:iE d 5≠0->d.fn=[]
 needs:(∀x,x∈d.needs->x.2≠0)/\(d.needs.map (·.1)).Nodup
 names:d.names.Pairwise jl
 fields:∀x,x∈d.fields->iY x=true/\x≠idC
theorem uq(d:gY):iY d=true↔May d:=by
 rw[XT];unfold vZ;simp only[aF,aI];rw[zk1,X0,ai];constructor
 ·rintro⟨⟨⟨h1,h2,h3⟩,h4,h5,h6⟩,h7,h8⟩
  refine⟨h1,h2,?_,λh=>?_,λh=>?_,h5,h6,λx hx=>?_⟩
  ·rcases h3 with h3|h3
   ·exact .inl (aT.1 h3)
   ·obtain⟨x,y,hxy⟩:∃x y,d.fn=[x,y]:=by
     match d.fn,h3 with
     |[x,y],_=>exact⟨x,y,rfl⟩
    rw[hxy,Ag]at h8;simp only[aF,bF,Bool.and_eq_false_iff,GI]at h8;exact .inr ⟨x,y,hxy,h8.1,h8.2.1,λ⟨e1,e2⟩=>h8.2.2.elim (λq=>q e1) (λq=>q e2)⟩
  ·refine aT.1 ?_;omega
  ·refine aT.1 ?_;omega
  ·have:=h7 x hx;simp only[aF,bF,GI]at this;exact this
 ·rintro⟨h1,h2,h3,h4,h5,h6,h7,h8⟩
  refine⟨⟨⟨h1,h2,?_⟩,?_,h6,h7⟩,λx hx=>?_,?_⟩
  ·rcases h3 with h3|⟨f,g,h3,_⟩<;>rw[h3]<;>simp
  ·rintro(⟨q,r⟩|⟨q,r⟩)
   ·rw[h4 q]at r;simp at r
   ·rw[h5 q]at r;simp at r
  ·simp only[aF,bF,GI];exact h8 x hx
  ·rcases h3 with h3|⟨f,g,h3,q1,q2,q3⟩
   ·rw[h3];try rfl
   ·rw[h3,Ag];simp only[aF,bF,Bool.and_eq_false_iff,GI];refine⟨q1,q2,?_⟩;by_cases e:f=idC
    ·exact .inr λe'=>q3 ⟨e,e'⟩
    ·exact .inl e
instance memBDec (k:fE) (l:List fE):Decidable (k∈l):=decidable_of_iff (l.any (λx=>decide (x=k))=true) (by simp)
def r9:List fE->List gY->fE->gY
|n::ns,f::fs,k=>if k=n then f else r9 ns fs k
|_,_,_=>idC
def kJ(c:gY)(k:fE):gY:=r9 c.names c.fields k
theorem yB:∀{ns:List fE} {fs:List gY} {k:fE},k∉ns->r9 ns fs k=idC
|[],fs,k,h=>by simp[r9]
|n::ns,[],k,h=>by simp[r9]
|n::ns,f::fs,k,h=>by
 simp only[aN,dU]at h;rw[r9,aB h.1,yB h.2]
theorem GJ:∀{ns:List fE} {fs:List gY} {k:fE},ns.length=fs.length->k∈ns->r9 ns fs k∈fs
| n::ns,f::fs,k,e,h=>by
 rw[r9];split
 ·simp
 ·rename_i q;have:=GJ (ns:=ns) (fs:=fs) (k:=k) (by simpa using e) ((aN.1 h).resolve_left q);simp[this]
|_::_,[],_,e,_=>by simp at e
theorem X5:∀{ns:List fE} {fs:List gY} {j:Nat} (h:j<ns.length) (h':j<fs.length),ns.Nodup->r9 ns fs ns[j]=fs[j]
|n::ns,f::fs,0,_,_,_=>by simp[r9]
|n::ns,f::fs,j+1,h,h',hn=>by
 simp only[bV]at hn;simp only[List.getElem_cons_succ];have hj:j<ns.length:=by simpa using h
 have hne:¬ns[j]=n:=λe=>hn.1 (e▸aR hj);rw[r9,aB hne];exact X5 _ _ hn.2
theorem X6:∀{ns:List fE} {fs gs:List gY},ns.length=fs.length->ns.length=gs.length->ns.Nodup->(∀k,r9 ns fs k=r9 ns gs k)->fs=gs
|[],[],[],_,_,_,_=>rfl
| n::ns,f::fs,g::gs,h1,h2,hn,h=>by
 have h0:=h n;simp only[bV]at hn;simp only[r9,if_true]at h0;rw[h0,X6 (ns:=ns) (fs:=fs) (gs:=gs) (by simpa using h1) (by simpa using h2) hn.2 λk=>by
  by_cases q:k=n
  ·rw[q,yB hn.1,yB hn.1]
  ·have:=h k
   simpa only[r9,aB q]using this]
|[],f::fs,_,h1,_,_,_=>by simp at h1
|[],[],g::gs,_,h2,_,_=>by simp at h2
|n::ns,[],_,h1,_,_,_=>by simp at h1
|n::ns,f::fs,[],_,h2,_,_=>by simp at h2
theorem Cs:iY idC=true:=by decide
theorem May.idC:May idC:=(uq _).1 Cs
theorem May.field{c:gY}(h:May c)(k:fE):iY (kJ c k)=true:=by
 unfold kJ;by_cases q:k∈c.names
 ·exact(h.fields _ (GJ h.len q)).1
 ·rw[yB q];exact Cs
theorem May.field_ne{c:gY}(h:May c){k:fE}:kJ c k≠Go.Gr.idC↔k∈c.names:=by
 unfold kJ;constructor
 ·intro q;exact Decidable.byContradiction λe=>q (yB e)
 ·intro q;exact(h.fields _ (GJ h.len q)).2
theorem May.pair{c:gY}(h:May c):iY (jO c).1=true/\iY (jO c).2=true:=by
 unfold jO;rcases h.fn with e|⟨f,g,e,h1,h2,_⟩<;>rw[e]
 ·exact⟨Cs,Cs⟩
 ·exact⟨h1,h2⟩
theorem May.pair_fn{c:gY}(h:May c):c.fn=nC (jO c).1 (jO c).2:=by
 unfold jO nC;rcases h.fn with e|⟨f,g,e,h1,h2,h3⟩<;>rw[e]
 ·simp[JC]
 ·rw[aB];simp only[aF,Ah];exact h3
theorem zFn{c:gY}{f g:gY}(h:c.fn=nC f g):jO c=(f,g):=by
 unfold jO;rw[h];unfold nC;split
 ·rename_i x y l e;split at e
  ·cases e
  ·cases e;rfl
 ·rename_i e;split at e
  ·rename_i q;simp only[aF,Ah]at q;rw[q.1,q.2]
  ·exact absurd rfl (e _ _ _)
theorem May.ext{a b:gY}(ha:May a)(hb:May b)(h1:a.tags=b.tags)(h2:a.needs=b.needs)(h3:∀k,kJ a k=kJ b k)(h4:jO a=jO b):a=b:=by
 have hn:a.names=b.names:=X3 ha.names hb.names λk=>by
  rw[<-ha.field_ne,<-hb.field_ne,h3]
 refine gY.ext' h1 h2 hn ?_ ?_
 ·refine X6 ha.len (by rw[hn];exact hb.len) (sG ha.names) λk=>?_;have:=h3 k;unfold kJ at this;rw[this,hn]
 ·rw[ha.pair_fn,hb.pair_fn,h4]
def lG(a b:List Int):List Int:=List.zipWith (λx y=>if x=0 then y else x) a b
def uW(a b:gY):List (fE × Int):=if iE a 4=0 then oZ a.needs b.needs else a.needs
def zZ(a b:gY):List fE:=zco (a.names++b.names.filter λk=> !decide (k∈a.names))
def busy(l:List (fE × gY)):List (fE × gY):=l.filter λx=> !jW x.2 idC
def rf(v:gY->gY->gY)(a b:gY):List (fE × gY):=busy ((zZ a b).map λk=>(k,v (kJ a k) (kJ b k)))
def jG(v:gY->gY->gY)(a b:gY):gY:=
.mk (lG a.tags b.tags) (uW a b) (if(lG a.tags b.tags).getD 4 0=0 then(rf v a b).map (·.1)else []) (if(lG a.tags b.tags).getD 4 0=0 then(rf v a b).map (·.2)else [])
 (if(lG a.tags b.tags).getD 5 0=0 then nC (v (jO b).1 (jO a).1) (v (jO a).2 (jO b).2)else [])
def nD:Nat->gY->gY->gY
|0,_,_=>idC
|n+1,a,b=>jG (nD n) a b
theorem zFo{a b:List Int}(ha:a.length=6)(hb:b.length=6)(i:Nat):(lG a b).getD i 0=if a.getD i 0=0 then b.getD i 0 else a.getD i 0:=by
 unfold lG;simp only[aH,List.getElem?_zipWith];by_cases h:i<6
 ·rw[aA (by omega),aA (by omega)];simp
 ·rw[aS (by omega),aS (by omega)];simp
theorem GK{a b:List Int}(ha:a.length=6)(hb:b.length=6):(lG a b).length=6:=by simp[lG,ha,hb]
theorem X7{a b:List Int}(ha:a.length=6)(hb:b.length=6)(h:∀i,a.getD i 0=b.getD i 0):a=b:=by
 refine List.ext_getElem (by omega) λi h1 h2=>?_;have:=h i;simpa[aH,aA h1,aA h2]using this
theorem X8{w:fE->gY}:∀{ks:List fE},ks.Nodup->∀k,r9 ((busy (ks.map λk=>(k,w k))).map (·.1)) ((busy (ks.map λk=>(k,w k))).map (·.2)) k=if k∈ks then w k else idC
|[],_,k=>by simp[busy,r9]
| x::ks,hn,k=>by
 simp only[bV]at hn;have ih:=X8 (w:=w) hn.2 k;by_cases q:jW (w x) idC=true
 ·have e:busy ((x::ks).map λk=>(k,w k))=busy (ks.map λk=>(k,w k)):=by simp[busy,q]
  rw[e,ih];by_cases qk:k=x
  ·subst qk;rw[aB hn.1,aC (by simp),(Ah _ _).1 q]
  ·simp[qk]
 ·have e:busy ((x::ks).map λk=>(k,w k))=(x,w x)::busy (ks.map λk=>(k,w k)):=by simp[busy,q]
  rw[e];simp only[List.map_cons,r9];by_cases qk:k=x
  ·subst qk;simp
  ·rw[aB qk,ih];simp[qk]
theorem X9{a b:gY}{k:fE}:k∈zZ a b↔k∈a.names\/k∈b.names:=by
 unfold zZ;rw[JA];simp only[aQ,bD,bF,bf];by_cases h:k∈a.names<;>simp[h]
theorem Xa{a b:gY}(ha:a.names.Nodup)(hb:b.names.Nodup):(a.names++b.names.filter λk=> !decide (k∈a.names)).Nodup:=by
 refine bv.2 ⟨ha,hb.filter _,λx hx y hy e=>?_⟩;simp only[bD,bF,bf]at hy;exact hy.2 (e▸hx)
theorem Xb{a b:gY}(ha:May a)(hb:May b):(zZ a b).Pairwise jl:=X4 (Xa (sG ha.names) (sG hb.names))
section
variable {v:gY->gY->gY} {a b:gY}
theorem Ct(ha:May a)(hb:May b)(i:Nat):iE (jG v a b) i=if iE a i=0 then iE b i else iE a i:=zFo ha.tags hb.tags i
theorem Xc(ha:May a)(hb:May b)(v0:v idC idC=idC)(k:fE):kJ (jG v a b) k=if iE (jG v a b) 4=0 then v (kJ a k) (kJ b k)else idC:=by
 have ht:iE (jG v a b) 4=(lG a.tags b.tags).getD 4 0:=rfl;have hN:(jG v a b).names=if(lG a.tags b.tags).getD 4 0=0 then(rf v a b).map (·.1)else []:=rfl;have hF:(jG v a b).fields=if(lG a.tags b.tags).getD 4 0=0 then(rf v a b).map (·.2)else []:=rfl;have hf:kJ (jG v a b) k=r9 (jG v a b).names (jG v a b).fields k:=rfl;rw[ht,hf,hN,hF];split
 ·rename_i h;unfold rf;rw[X8 (w:=λk=>v (kJ a k) (kJ b k)) (sG (Xb ha hb))];by_cases q:k∈zZ a b
  ·rw[aC q]
  ·rw[aB q];rw[X9,dU]at q;have e1:kJ a k=idC:=yB q.1;have e2:kJ b k=idC:=yB q.2;rw[e1,e2,v0]
 ·rename_i h;rfl
theorem Xd(v0:v idC idC=idC):jO (jG v a b)=if iE (jG v a b) 5=0 then(v (jO b).1 (jO a).1,v (jO a).2 (jO b).2)else(idC,idC):=by
 have ht:iE (jG v a b) 5=(lG a.tags b.tags).getD 5 0:=rfl;rw[ht];split
 ·rename_i h;refine zFn ?_;unfold jG;simp only[gY.fn,h,if_true]
 ·rename_i h;unfold jO jG;simp only[gY.fn,h,if_false]
theorem zCl{a b:List (fE × Int)}(ha:(a.map (·.1)).Nodup)(hb:(b.map (·.1)).Nodup):((oZ a b).map (·.1)).Nodup:=by
 unfold oZ;rw[List.map_append];refine bv.2 ⟨ha,?_,λx hx y hy e=>?_⟩
 ·exact List.Sublist.nodup (List.filter_sublist.map _) hb
 ·obtain⟨z,hz,rfl⟩:=ae.1 hy;simp only[bD,bF,dW,aI]at hz;obtain⟨u,hu,rfl⟩:=ae.1 hx;exact hz.2 u hu e
theorem OD(ha:May a)(hb:May b)(hv:∀x y,iY x=true->iY y=true->iY (v x y)=true):May (jG v a b) where
 tags:=GK ha.tags hb.tags
 len:=by
  unfold jG;simp only[gY.names,gY.fields];split<;>simp
 fn :=by
  unfold jG;simp only[gY.fn];split
  ·unfold nC;split
   ·exact .inl rfl
   ·rename_i q;simp only[aF,Ah]at q;exact .inr ⟨_,_,rfl,hv _ _ hb.pair.1 ha.pair.1,hv _ _ ha.pair.2 hb.pair.2,q⟩
  ·exact .inl rfl
 t4:=λh=>by
  have ht:iE (jG v a b) 4=(lG a.tags b.tags).getD 4 0:=rfl;rw[ht]at h;unfold jG;simp only[gY.names,h,if_false]
 t5:=λh=>by
  have ht:iE (jG v a b) 5=(lG a.tags b.tags).getD 5 0:=rfl;rw[ht]at h;unfold jG;simp only[gY.fn,h,if_false]
 needs:=by
  show(∀x,x∈uW a b->x.2≠0)/\((uW a b).map (·.1)).Nodup;unfold uW;split
  ·refine⟨λx hx=>?_,zCl ha.needs.2 hb.needs.2⟩;unfold oZ at hx;simp only[aQ,bD]at hx;exact hx.elim (ha.needs.1 x) (λh=>hb.needs.1 x h.1)
  ·exact ha.needs
 names:=by
  unfold jG;simp only[gY.names];split
  ·unfold rf busy;refine List.Pairwise.sublist (List.filter_sublist.map _) ?_;rw[bi];have:((λx:fE × gY=>x.1)∘λk=>(k,v (kJ a k) (kJ b k)))=id:=rfl;rw[this,List.map_id];exact Xb ha hb
  ·exact List.Pairwise.nil
 fields:=by
  unfold jG;simp only[gY.fields];split
  ·intro x hx;unfold rf busy at hx;simp only[ae,bD,bF,GI]at hx;obtain⟨y,⟨⟨k,_,rfl⟩,h2⟩,rfl⟩:=hx;exact⟨hv _ _ (ha.field k) (hb.field k),h2⟩
  ·intro x hx;cases hx
end
def qF:Nat->gY->Prop
|0,c=>c=idC
|n+1,c=>(∀x,x∈c.fields->qF n x)/\∀x,x∈c.fn->qF n x
theorem JD:∀n,qF n idC
|0=>rfl
|n+1=>⟨(λx hx=>by cases hx),(λx hx=>by cases hx)⟩
theorem z8{n:Nat}{c:gY}(h:qF (n+1) c)(hl:c.names.length=c.fields.length)(k:fE):qF n (kJ c k):=by
 unfold kJ;by_cases q:k∈c.names
 ·exact h.1 _ (GJ hl q)
 ·rw[yB q];exact JD n
theorem ut{n:Nat}{c:gY}(h:qF (n+1) c):qF n (jO c).1/\qF n (jO c).2:=by
 unfold jO;split
 ·rename_i f g l e;exact⟨h.2 f (by rw[e];simp),h.2 g (by rw[e];simp)⟩
 ·exact⟨JD n,JD n⟩
theorem Xe(n:Nat)(a b:gY):nD (n+1) a b=jG (nD n) a b:=rfl
theorem JE:∀n,nD n idC idC=idC
|0=>rfl
|n+1=>by
 have ih:=JE n;simp[nD,jG,lG,uW,oZ,rf,busy,zZ,zco,jO,idC,gY.tags,gY.needs,gY.names,gY.fields,gY.fn,iE,nC]at ih⊢;rw[ih];simp[JC]
theorem JF:∀(n:Nat) (a b:gY),iY a=true->iY b=true->iY (nD n a b)=true
|0,_,_,_,_=>Cs
|n+1,a,b,ha,hb=>(uq _).2 (OD ((uq _).1 ha) ((uq _).1 hb) (JF n))
theorem JG:∀(n:Nat) {a b:gY},iY a=true->iY b=true->qF n a->qF n b->qF n (nD n a b)
|0,_,_,_,_,_,_=>rfl
| n +1,a,b,ma,mb,ha,hb=>by
 have Ma:=(uq _).1 ma;have Mb:=(uq _).1 mb;refine⟨λx hx=>?_,λx hx=>?_⟩
 ·unfold nD jG at hx;simp only[gY.fields]at hx;split at hx
  ·unfold rf busy at hx;simp only[ae,bD]at hx;obtain⟨y,⟨⟨k,_,rfl⟩,h2⟩,rfl⟩:=hx;exact JG n (Ma.field k) (Mb.field k) (z8 ha Ma.len k) (z8 hb Mb.len k)
  ·cases hx
 ·unfold nD jG at hx;simp only[gY.fn]at hx;split at hx
  ·unfold nC at hx;split at hx
   ·cases hx
   ·simp only[aN,List.not_mem_nil,eY]at hx;rcases hx with rfl|rfl
    ·exact JG n Mb.pair.1 Ma.pair.1 (ut hb).1 (ut ha).1
    ·exact JG n Ma.pair.2 Mb.pair.2 (ut ha).2 (ut hb).2
  ·cases hx
section
variable {a b c:gY}
theorem May.field4(h:May a)(q:iE a 4≠0)(k:fE):kJ a k=Go.Gr.idC:=by
 unfold kJ;rw[h.t4 q];exact yB (by simp)
theorem May.pair5(h:May a)(q:iE a 5≠0):jO a=(Go.Gr.idC,Go.Gr.idC):=by
 unfold jO;rw[h.t5 q]
end
theorem Ai(i:Nat):iE idC i=0:=by
 unfold iE idC;simp only[gY.tags,aH]
 match i with
 |0|1|2|3|4|5=>rfl
 |i+6=>simp
theorem Xf(k:fE):kJ idC k=idC:=rfl
theorem Xg:jO idC=(idC,idC):=rfl
theorem Bd:∀(n:Nat) (a:gY),qF n a->iY a=true->nD n a idC=a/\nD n idC a=a
|0,a,h,_=>by
 have:a=idC:=h;rw[this];exact⟨rfl,rfl⟩
| n +1,a,h,ma=>by
 have Ma:=(uq _).1 ma;have v0:=JE n;have M1:May (jG (nD n) a idC):=OD Ma May.idC (JF n);have M2:May (jG (nD n) idC a):=OD May.idC Ma (JF n);constructor
 ·rw[Xe];refine May.ext M1 Ma (X7 M1.tags Ma.tags λi=>?_) ?_ (λk=>?_) ?_
  ·have:=Ct (v:=nD n) Ma May.idC i;rw[Ai]at this;refine this.trans ?_;split
   ·rename_i q;exact q.symm
   ·rfl
  ·show uW a idC=a.needs;unfold uW;split
   ·show oZ a.needs []=a.needs;simp[oZ]
   ·rfl
  ·rw[Xc Ma May.idC v0,Ct Ma May.idC,Ai,Xf];by_cases q:iE a 4=0
   ·rw[aC (by rw[aC q])];exact(Bd n _ (z8 h Ma.len k) (Ma.field k)).1
   ·rw[aB (by rw[aB q];exact q)];exact(Ma.field4 q k).symm
  ·rw[Xd v0,Ct Ma May.idC,Ai,Xg];by_cases q:iE a 5=0
   ·rw[aC (by rw[aC q])];rw[(Bd n _ (ut h).1 Ma.pair.1).2,(Bd n _ (ut h).2 Ma.pair.2).1]
   ·rw[aB (by rw[aB q];exact q)];exact(Ma.pair5 q).symm
 ·rw[Xe];refine May.ext M2 Ma (X7 M2.tags Ma.tags λi=>?_) ?_ (λk=>?_) ?_
  ·have:=Ct (v:=nD n) May.idC Ma i;rw[Ai,aC rfl]at this;exact this
  ·show uW idC a=a.needs;unfold uW;rw[Ai,aC rfl];show oZ [] a.needs=a.needs;unfold oZ;simp
  ·rw[Xc May.idC Ma v0,Ct May.idC Ma,Ai,Xf,aC rfl];by_cases q:iE a 4=0
   ·rw[aC q];exact(Bd n _ (z8 h Ma.len k) (Ma.field k)).2
   ·rw[aB q];exact(Ma.field4 q k).symm
  ·rw[Xd v0,Ct May.idC Ma,Ai,Xg,aC rfl];by_cases q:iE a 5=0
   ·rw[aC q];rw[(Bd n _ (ut h).1 Ma.pair.1).1,(Bd n _ (ut h).2 Ma.pair.2).2]
   ·rw[aB q];exact(Ma.pair5 q).symm
end Go.Gr
namespace Go.Gr
open Go.Abs Go.Proofs List
def kK:List (fE × gY)->fE->gY->List (fE × gY)
|[],k,d=>[(k,d)]
|x::l,k,d=>if k=x.1 then(k,d)::l else x::kK l k d
theorem JH{k:fE}{d:gY}:∀{l:List (fE × gY)},(kK l k d).map (·.1)=if k∈l.map (·.1)then l.map (·.1)else l.map (·.1)++[k]
|[]=>by simp[kK]
| x::l=>by
 by_cases e:k=x.1
 ·simp[kK,e]
 ·have hh:kK (x::l) k d=x::kK l k d:=by simp[kK,e]
  have ih:=JH (k:=k) (d:=d) (l:=l);rw[hh,map_cons,ih];by_cases q:k∈l.map (·.1)
  ·rw[aC q,aC (by simp only[map_cons,aN];exact .inr q),map_cons]
  ·rw[aB q,aB (by simp only[map_cons,aN,dU];exact⟨e,q⟩),map_cons,cons_append]
theorem Xh{k:fE}{d:gY}:∀{l:List (fE × gY)} {q:fE},rZ (kK l k d) q=if q=k then d else rZ l q
|[],q=>by simp[kK,rZ]
| x::l,q=>by
 by_cases e:k=x.1
 ·subst e;simp only[kK,if_true,rZ];by_cases e':q=x.1<;>simp[e']
 ·simp only[kK,aB e,rZ,Xh (l:=l)];by_cases e':q=x.1
  ·subst e';have:¬x.1=k:=λh=>e h.symm;simp[this]
  ·simp[e']
theorem Xi{k:fE}{d f:gY}:∀{l:List (fE × gY)},kK (kK l k f) k d=kK l k d
|[]=>by simp[kK]
|x::l=>by
 by_cases e:k=x.1
 ·simp[kK,e]
 ·simp[kK,e,Xi (l:=l)]
theorem six{l:List Int}(h:l.length=6):∃a b c d e f,l=[a,b,c,d,e,f]:=by
 match l,h with
 |[a,b,c,d,e,f],_=>exact⟨a,b,c,d,e,f,rfl⟩
def qG(L:List Int)(j:Nat):List Int:=L.take j++replicate (6-j) 0
theorem Xj{L:List Int}(hL:L.length=6){j:Nat}(h:j<6):(qG L j).set j L[j]=qG L (j+1):=by
 obtain⟨a,b,c,d,e,f,rfl⟩:=six hL
 match j,h with
 |0,_|1,_|2,_|3,_|4,_|5,_=>rfl
theorem Xk(l:List Int)(j:Nat)(x:Int):encI (l.set j x)=(encI l).set j [.int .i64 x]:=by simp[encI,fD]
def GL(v:gY->gY->gY)(a b:gY)(j:Nat)(l:List (fE × gY)):Prop:=
 l.map (·.1)=a.names++(b.names.take j).filter (λk=> !decide (k∈a.names))/\∀k,k∈l.map (·.1)->rZ l k=if k∈b.names.take j then v (kJ a k) (kJ b k)else kJ a k
structure qf (B:Nat) (d:gY):Prop where
 needs:d.needs.length<=B
 fields:d.fields.length<=B
 fn:d.fn.length<=B
theorem za{l:List Int}(h:l.length=6){i:Nat}(hi:i<6):l[i]?=some (l.getD i 0):=by
 rw[aH,aA (by omega)];try rfl
theorem EG{α:Type}{l:List α}(h:l.Nodup){j:Nat}(hj:j<l.length):l[j]∉l.take j:=λhm=>by
 obtain⟨i,hi,e⟩:=bJ hm;rw[getElem_take]at e;have hi':i<j:=by simp at hi;omega
 exact(bn.1 h) i j (by omega) hj hi' e
theorem zGf{α:Type}{l:List α}{j:Nat}(hj:j<l.length){k:α}:k∈l.take (j+1)↔k∈l.take j\/k=l[j]:=by
 rw[aJ hj,aQ,aL]
theorem OE{l:List fE}{f:List gY}(h:l.length=f.length):(l.zip f).map (·.1)=l:=by
 rw[map_fst_zip (by omega)]
theorem zz1{l:List fE}{f:List gY}(h:l.length=f.length){j:Nat}:((l.zip f).take j).map (·.1)=l.take j:=by
 rw[map_take,OE h]
theorem Xl:∀{l:List fE} {f:List gY} {k:fE},l.length=f.length->k∈l->rZ (l.zip f) k=r9 l f k
| n::l,x::f,k,h,hk=>by
 simp only[zip_cons_cons,rZ,r9];split
 ·rfl
 ·rename_i q;exact Xl (by simpa using h) ((aN.1 hk).resolve_left q)
|_::_,[],_,h,_=>by simp at h
theorem zHO{v:gY->gY->gY}{a b:gY}(Ma:May a):GL v a b 0 (a.names.zip a.fields):=by
 refine⟨by rw[OE Ma.len];simp,λk hk=>?_⟩;rw[OE Ma.len]at hk;simp;exact Xl Ma.len hk
theorem zHP{v:gY->gY->gY}{a b:gY}{j:Nat}{l:List (fE × gY)}(Ma:May a)(Mb:May b)(hj:j<b.names.length)(h:GL v a b j l){d:gY}(hd:d=v (kJ a b.names[j]) (kJ b b.names[j])):
  GL v a b (j+1) (kK l b.names[j] d):=by
 obtain⟨h1,h2⟩:=h;have hnd:=sG Mb.names;have hnot:b.names[j]∉b.names.take j:=EG hnd hj;constructor
 ·rw[JH,h1,aJ hj,dH];by_cases q:b.names[j]∈a.names
  ·rw[aC (by simp[q])];simp[q]
  ·rw[aB (by simp only[aQ,bD,dU];exact⟨q,λh=>hnot h.1⟩)];simp[q]
 ·intro k hk;rw[Xh];simp only[zGf hj];by_cases q:k=b.names[j]
  ·subst q;simp[hd]
  ·rw[aB q];have hk':k∈l.map (·.1):=by
    rw[JH]at hk;split at hk
    ·exact hk
    ·simp only[aQ,aL]at hk;exact hk.resolve_right q
   rw[h2 k hk'];simp[q]
abbrev mO:Blk:=.box [.d (.sl true 1 []),.d (.sl true 2 []),.d (.sl true 1 []),.d (.sl true 5 []),.d (.sl true 5 [])]
abbrev ve(T:List Int)(N:List (fE × Int)):Blk:=.box [.d (.sl false 1 (encI T)),.d (.sl false 2 (iI N)),.d (.sl true 1 []),.d (.sl true 5 []),.d (.sl true 5 [])]
abbrev EH(a b:gY):List (Nat × AV):=[(2,.c (.d (.rp a.enc 0))),(3,.c (.d (.rp b.enc 0))),(4,.c (.ptr 0 0)),(5,.c (.ptr 2 0))]
@[simp] theorem zJ5:iI []=[]:=rfl
@[simp] theorem zJ6:encI []=[]:=rfl
theorem St.forget{F:St->Prop}{t:List (Nat × AV)}{m:Hp}{n:Nat}(R:List (Nat × AV)->Hp->Prop)(hr:R t m)(h:∀T M,R T M->F ⟨T,M,n⟩):F ⟨t,m,n⟩:=h t m hr
theorem May.fn_len{c:gY}(h:May c):c.fn.length=0\/c.fn.length=2:=by
 rcases h.fn with e|⟨f,g,e,_⟩<;>rw[e]<;>simp
mutual
def mZ(B:Nat):gY->Prop
|.mk t n s f g=>n.length<=B/\f.length<=B/\g.length<=B/\vg B f/\vg B g
def vg(B:Nat):List gY->Prop
|[]=>True
|c::l=>mZ B c/\vg B l
end
theorem Xm(B:Nat):∀l:List gY,vg B l↔∀x,x∈l->mZ B x
|[]=>by simp[vg]
|c::l=>by simp[vg,Xm B l]
theorem ym(B:Nat)(d:gY):mZ B d↔d.needs.length<=B/\d.fields.length<=B/\d.fn.length<=B/\(∀x,x∈d.fields->mZ B x)/\∀x,x∈d.fn->mZ B x:=by
 cases d;simp only[mZ,Xm,gY.needs,gY.fields,gY.fn]
theorem Aj(B:Nat):mZ B idC:=by simp[mZ,idC,vg]
theorem JI{B:Nat}{c:gY}(h:mZ B c)(hl:c.names.length=c.fields.length)(k:fE):mZ B (kJ c k):=by
 unfold kJ;by_cases q:k∈c.names
 ·exact((ym B c).1 h).2.2.2.1 _ (GJ hl q)
 ·rw[yB q];exact Aj B
theorem Be{B:Nat}{c:gY}(h:mZ B c):mZ B (jO c).1/\mZ B (jO c).2:=by
 have h':=((ym B c).1 h).2.2.2.2;unfold jO;split
 ·rename_i f g l e;rw[e]at h';exact⟨h' f (by simp),h' g (by simp)⟩
 ·exact⟨Aj B,Aj B⟩
theorem JJ{B:Nat}{c:gY}(h:mZ B c):qf B c:=by
 have:=(ym B c).1 h;exact⟨this.1,this.2.1,this.2.2.1⟩
theorem OG{B B':Nat}(hB:B<=B'):∀(n:Nat) {c:gY},qF n c->mZ B c->mZ B' c
|0,c,hn,h=>by
 have:c=idC:=hn;rw[this];exact Aj B'
|n+1,c,hn,h=>by
 rw[ym]at h⊢;exact⟨by omega,by omega,by omega,λx hx=>OG hB n (hn.1 x hx) (h.2.2.2.1 x hx),λx hx=>OG hB n (hn.2 x hx) (h.2.2.2.2 x hx)⟩
theorem zkS(a b:List (fE × Int)):(oZ a b).length<=a.length+b.length:=by
 unfold oZ;have:=bS (λn:fE × Int=> !a.any λm=>decide (m.1=n.1)) b;rw[aX];omega
theorem zly(a b:gY):(zZ a b).length<=a.names.length+b.names.length:=by
 unfold zZ zco;have:=bS (λk=> !decide (k∈a.names)) b.names;simp only[aU,length_mergeSort,aX];omega
theorem JK{A B:Nat}(hAB:2<=A+B):∀(n:Nat) {a b:gY},qF n a->qF n b->iY a=true->iY b=true->mZ A a->mZ B b->mZ (A+B) (nD n a b)/\mZ (A+B) (nD n b a)
|0,_,_,_,_,_,_,_,_=>⟨Aj _,Aj _⟩
| n +1,a,b,ia,ib,ma,mb,sa,sb=>by
 have Ma:=(uq _).1 ma;have Mb:=(uq _).1 mb;have ta:=(ym A a).1 sa;have tb:=(ym B b).1 sb;have la:=Ma.len;have lb:=Mb.len;have ihf:=λk=>JK hAB n (z8 ia Ma.len k) (z8 ib Mb.len k) (Ma.field k) (Mb.field k) (JI sa Ma.len k) (JI sb Mb.len k);have ih1:=JK hAB n (ut ia).1 (ut ib).1 Ma.pair.1 Mb.pair.1 (Be sa).1 (Be sb).1;have ih2:=JK hAB n (ut ia).2 (ut ib).2 Ma.pair.2 Mb.pair.2 (Be sa).2 (Be sb).2;have key:∀(c d:gY),c.needs.length+d.needs.length<=A+B->c.names.length+d.names.length<=A+B->(∀k,mZ (A+B) (nD n (kJ c k) (kJ d k)))->mZ (A+B) (nD n (jO d).1 (jO c).1)->mZ (A+B) (nD n (jO c).2 (jO d).2)->mZ (A+B) (jG (nD n) c d):=λc d h1 h2 h3 h4 h5=>by
  rw[ym];have hb:(rf (nD n) c d).length<=A+B:=by
   unfold rf busy;refine ak (bS _ _) ?_;rw[aU];exact ak (zly c d) h2
  refine⟨?_,?_,?_,?_,?_⟩
  ·show(uW c d).length<=A+B;unfold uW;split
   ·exact ak (zkS _ _) h1
   ·omega
  ·unfold jG;simp only[gY.fields];split
   ·rw[aU];exact hb
   ·simp
  ·unfold jG;simp only[gY.fn];split
   ·unfold nC;split
    ·simp
    ·simpa using hAB
   ·simp
  ·intro x hx;unfold jG at hx;simp only[gY.fields]at hx;split at hx
   ·unfold rf busy at hx;simp only[ae,bD]at hx;obtain⟨y,⟨⟨k,_,rfl⟩,_⟩,rfl⟩:=hx;exact h3 k
   ·cases hx
  ·intro x hx;unfold jG at hx;simp only[gY.fn]at hx;split at hx
   ·unfold nC at hx;split at hx
    ·cases hx
    ·simp only[aN,dE,eY]at hx;rcases hx with rfl|rfl
     ·exact h4
     ·exact h5
   ·cases hx
 exact⟨key a b (by omega) (by omega) (λk=>(ihf k).1) ih1.2 ih2.1,key b a (by omega) (by omega) (λk=>(ihf k).2) ih1.1 ih2.2⟩
def JL(n:Nat)(a b:gY):gY:=if(iY a&&iY b)=true then nD n a b else xZ
end Go.Gr
namespace Go.Gr
open Go.Abs Go.Proofs
theorem zb5(a b:fE):Op.bytesLess a.data.toList b.data.toList=decide (jl a b):=JB _ _
structure Mrg (a b:List fE) (i k:Nat) (l:List fE):Prop where
 hi:i<=a.length
 hk:k<=b.length
 len:l.length<=i+k
 rises:l.Pairwise jl
 mem:∀x,x∈l↔x∈a.take i\/x∈b.take k
 la:∀x,x∈l->∀j (h:j<a.length),i<=j->jl x a[j]
 lb:∀x,x∈l->∀j (h:j<b.length),k<=j->jl x b[j]
structure RcH (v:gY->gY->gY) (a b:gY):Prop where
 Ma:May a
 Mb:May b
 v0:v idC idC=idC
 sa:qf 536870912 a
 sb:qf 536870912 b
 H1:∀k,k∈zZ a b->gU Pg 69 [.agg (kJ a k).enc,.agg (kJ b k).enc] (.agg (v (kJ a k) (kJ b k)).enc)
 H2:0<a.fn.length+b.fn.length->gU Pg 69 [.agg (jO b).1.enc,.agg (jO a).1.enc] (.agg (v (jO b).1 (jO a).1).enc)
 H3:0<a.fn.length+b.fn.length->gU Pg 69 [.agg (jO a).2.enc,.agg (jO b).2.enc] (.agg (v (jO a).2 (jO b).2).enc)
def jm(C:gY)(k:fE)(d:gY):gY:=if jW d idC=true then C else .mk C.tags C.needs (C.names++[k]) (C.fields++[d]) C.fn
def oH(C:gY)(k:fE)(lb:Int):gY:=.mk C.tags (C.needs++[(k,lb)]) C.names C.fields C.fn
def o5(v:gT->gT->Int->gY)(lb:Int):List fE->List gT->gY->gY
|k::ks,t::ts,C=>o5 v lb ks ts (jm C k (v t noT lb))
|_,_,C=>C
def o6(v:gT->gT->Int->gY)(m:ic)(lb:Int):List fE->List gT->gY->gY
|k::ks,t::ts,C=>
 let c1:=if(kH m.t k).2=false then oH C k lb else C
 o6 v m lb ks ts (if(kH m.t k).2=true\/m.opn=true then jm c1 k (v (kH m.t k).1 t lb)else c1)
|_,_,C=>C
def uX(v:gT->gT->Int->gY)(m n:ic)(lb:Int)(C:gY):gY:=
 if n.opn=true then(if m.opn=true then C else o5 v lb m.t.names m.t.kids C)else o6 v m lb n.t.names n.t.kids C
@[simp] theorem ic.gt0(p:ic)(h:0<p.enc.length):p.enc[0]=.int .i64 p.tag:=rfl
@[simp] theorem ic.gt1(p:ic)(h:1<p.enc.length):p.enc[1]=.bool p.opn:=rfl
@[simp] theorem Cu(C:gY)(k:fE)(lb:Int):(oH C k lb).needs=C.needs++[(k,lb)]:=rfl
@[simp] theorem zhR(C:gY)(k:fE)(lb:Int):(oH C k lb).names=C.names:=rfl
@[simp] theorem zhS(C:gY)(k:fE)(lb:Int):(oH C k lb).fields=C.fields:=rfl
def qH(x:Int):Int:=if x%2=0 then x+1 else x-1
def tC(C:gY)(i:Nat)(x:Int):gY:=.mk (C.tags.set i x) C.needs C.names C.fields C.fn
def OH(C:gY)(g:List gY):gY:=.mk C.tags C.needs C.names C.fields g
def yC(v:gT->gT->Int->gY)(R:List ic)(lb:Int)(m:ic)(C:gY):gY:=
 if(jy R m.tag).2=false then tC C m.tag.toNat lb
 else if m.tag=5 then OH C (nC (v (jY (jy R 5).1.t) (jY m.t) (qH lb)) (v (jZ m.t) (jZ (jy R 5).1.t) lb))
 else if m.tag=4 then uX v m (jy R 4).1 lb C else C
def uu(v:gT->gT->Int->gY)(R:List ic)(lb:Int):List ic->gY->gY
|[],C=>C
|m::l,C=>uu v R lb l (yC v R lb m C)
def tZ:Nat->gT->gT->Int->gY
|0,_,_,_=>idC
|n+1,a,b,lb=>if a.kind=0/\b.kind=0 then idC else uu (tZ n) (kW b) lb (kW a) idC
theorem Xn(C:gY)(k:fE)(d:gY):(jm C k d).tags=C.tags/\(jm C k d).fn=C.fn:=by
 unfold jm;split<;>exact⟨rfl,rfl⟩
theorem Xo(v:gT->gT->Int->gY)(lb:Int):∀(ns:List fE) (ks:List gT) (C:gY),(o5 v lb ns ks C).tags=C.tags/\(o5 v lb ns ks C).fn=C.fn
|[],_,C=>by rw[o5];exact⟨rfl,rfl⟩;intros;contradiction
|_::_,[],C=>by rw[o5];exact⟨rfl,rfl⟩;intros;contradiction
|n::ns,k::ks,C=>by
 rw[o5];have h:=Xo v lb ns ks (jm C n (v k noT lb));have h2:=Xn C n (v k noT lb);exact⟨h.1.trans h2.1,h.2.trans h2.2⟩
theorem Xp(v:gT->gT->Int->gY)(m:ic)(lb:Int):∀(ns:List fE) (ks:List gT) (C:gY),(o6 v m lb ns ks C).tags=C.tags/\(o6 v m lb ns ks C).fn=C.fn
|[],_,C=>by rw[o6];exact⟨rfl,rfl⟩;intros;contradiction
|_::_,[],C=>by rw[o6];exact⟨rfl,rfl⟩;intros;contradiction
| n::ns,k::ks,C=>by
 rw[o6];have h1:(if(kH m.t n).2=false then oH C n lb else C).tags=C.tags/\(if(kH m.t n).2=false then oH C n lb else C).fn=C.fn:=by split<;>exact⟨rfl,rfl⟩
 generalize (if(kH m.t n).2=false then oH C n lb else C)=c1 at*
 have h:=Xp v m lb ns ks (if(kH m.t n).2=true\/m.opn=true then jm c1 n (v (kH m.t n).1 k lb)else c1);have h2:(if(kH m.t n).2=true\/m.opn=true then jm c1 n (v (kH m.t n).1 k lb)else c1).tags=c1.tags/\(if(kH m.t n).2=true\/m.opn=true then jm c1 n (v (kH m.t n).1 k lb)else c1).fn=c1.fn:=by
  split
  ·exact Xn _ _ _
  ·exact⟨rfl,rfl⟩
 exact⟨h.1.trans (h2.1.trans h1.1),h.2.trans (h2.2.trans h1.2)⟩
theorem OI(v:gT->gT->Int->gY)(m n:ic)(lb:Int)(C:gY):(uX v m n lb C).tags=C.tags/\(uX v m n lb C).fn=C.fn:=by
 unfold uX;split
 ·split
  ·exact⟨rfl,rfl⟩
  ·exact Xo v lb _ _ _
 ·exact Xp v m lb _ _ _
abbrev boxM(p:ic):Blk:=.box (p.enc.map .d)
structure Xq (v:gT->gT->Int->gY) (L R:List ic) (lb:Int):Prop where
 dis:(L.map (·.tag)).Nodup
 tag:∀m,m∈L->0<=m.tag/\m.tag<6
 fn:∀m n,m∈L->n∈R->m.tag=5->n.tag=5->m.t.kids.length=2/\n.t.kids.length=2/\gU Pg 67 [.agg (jY n.t).enc,.agg (jY m.t).enc,.one (.int .i64 (qH lb))] (.agg (v (jY n.t) (jY m.t) (qH lb)).enc)/\gU Pg 67 [.agg (jZ m.t).enc,.agg (jZ n.t).enc,.one (.int .i64 lb)] (.agg (v (jZ m.t) (jZ n.t) lb).enc)
 rc:∀m n,m∈L->n∈R->m.tag=4->n.tag=4->m.t.names.length<=m.t.kids.length/\n.t.names.length<=n.t.kids.length/\m.t.kids.length<=1000/\n.t.kids.length<=1000/\
  (∀a,a∈m.t.kids->gU Pg 67 [.agg a.enc,.agg noT.enc,.one (.int .i64 lb)] (.agg (v a noT lb).enc))/\
  (∀k a,a∈n.t.kids->gU Pg 67 [.agg (kH m.t k).1.enc,.agg a.enc,.one (.int .i64 lb)] (.agg (v (kH m.t k).1 a lb).enc))
end Go.Gr
namespace Go.Gr
open Go.Abs Go.Proofs List
mutual
def oI:gT->Prop
|.mk k _ s l=>s.Pairwise jl/\(k=7->(l.map iH).Pairwise (· < ·)/\2<=l.length)/\Ak l
def Ak:List gT->Prop
|[]=>True
|t::l=>oI t/\Ak l
end
theorem Xr:∀l:List gT,Ak l↔∀x,x∈l->oI x
|[]=>by simp[Ak]
|t::l=>by simp[Ak,Xr l]
theorem wV(t:gT):oI t↔t.names.Pairwise jl/\(t.kind=7->(t.kids.map iH).Pairwise (· < ·)/\2<=t.kids.length)/\∀x,x∈t.kids->oI x:=by
 cases t;rw[oI,Xr];try rfl
def NF(t:gT):Prop:=jD t/\oI t
theorem NF.kid{t x:gT}(h:NF t)(hx:x∈t.kids):NF x:=⟨xy h.1 hx,((wV t).1 h.2).2.2 x hx⟩
theorem NF.base(k:Int)(h0:0<=k)(h4:k<=4):NF (bT k):=⟨vU k h0 h4,by simp[oI,bT,Ak];omega⟩
theorem NF.no:NF noT:=NF.base 0 (by omega) (by omega)
theorem NF.bt5:NF (bT 5):=⟨(ll _).2 ⟨rfl,λx h=>(by cases h),.inr (.inl ⟨rfl,rfl,by decide,λx h=>(by cases h)⟩)⟩,by simp[oI,bT,Ak]⟩
theorem NF.fn{a b:gT}(ha:NF a)(hb:NF b):NF (.mk 6 (bs []) [] [a,b]):=⟨(ll _).2 ⟨rfl,λx h=>by
 simp only[gT.kids,aN,dE,eY]at h;rcases h with rfl|rfl
 ·exact ha.1
 ·exact hb.1,.inr (.inr (.inl ⟨rfl,rfl,rfl⟩))⟩,by simp[oI,Ak];exact⟨ha.2,hb.2⟩⟩
theorem OJ{t:gT}(h:jD t)(h0:t.kind≠0)(h7:t.kind≠7):iH t=t.kind-1/\1<=t.kind/\t.kind<=6:=by
 have hk:1<=t.kind/\t.kind<=6:=by
  rcases((ll t).1 h).2.2 with⟨a,b,_⟩|⟨a,_⟩|⟨a,_⟩|⟨a,_⟩<;>omega
 refine⟨?_,hk⟩;unfold iH;rw[aB (by omega)]
theorem JM{t:gT}(h:NF t):((kW t).map (·.tag)).Nodup/\∀p,p∈kW t->0<=p.tag/\p.tag<6/\NF p.t/\(p.tag=5->p.t.kids.length=2)/\(∀x,x∈p.t.kids->jE x+(if t.kind=0 then 0 else 1)<=jE t)/\(p.tag=4->∀x,x∈p.t.kids->jE x+1<=jE t):=by
 have d1:=zS t;unfold kW;by_cases h0:t.kind=0
 ·rw[aC h0];refine⟨by decide,λp hp=>?_⟩;have e0:jE noT=1:=rfl;simp only[aN,dE,eY]at hp;simp only[h0,aC];rcases hp with rfl|rfl|rfl|rfl|rfl|rfl
  ·exact⟨by decide,by decide,NF.base 1 (by omega) (by omega),λh=>absurd h (by decide),λx hx=>(by cases hx),λ_ x hx=>(by cases hx)⟩
  ·exact⟨by decide,by decide,NF.base 2 (by omega) (by omega),λh=>absurd h (by decide),λx hx=>(by cases hx),λ_ x hx=>(by cases hx)⟩
  ·exact⟨by decide,by decide,NF.base 3 (by omega) (by omega),λh=>absurd h (by decide),λx hx=>(by cases hx),λ_ x hx=>(by cases hx)⟩
  ·exact⟨by decide,by decide,NF.base 4 (by omega) (by omega),λh=>absurd h (by decide),λx hx=>(by cases hx),λ_ x hx=>(by cases hx)⟩
  ·exact⟨by decide,by decide,NF.bt5,λh=>absurd h (by decide),λx hx=>(by cases hx),λ_ x hx=>(by cases hx)⟩
  ·refine⟨by decide,by decide,NF.fn NF.no NF.no,λ_=>rfl,λx hx=>?_,λh=>absurd h (by decide)⟩;simp only[gT.kids,aN,dE,eY]at hx;rcases hx with rfl|rfl<;>omega
 ·rw [aB h0];by_cases h7:t.kind=7
  ·rw[aB (by omega)];have ho:=((wV t).1 h.2).2.1 h7;refine⟨?_,λp hp=>?_⟩
   ·rw[bi];have he:((λx:ic=>x.tag)∘λk=>(⟨iH k,false,k⟩:ic))=iH:=rfl;rw[he];exact ho.1.imp λh=>by omega
   ·obtain⟨x,hx,rfl⟩:=ae.1 hp;have hk:1<=x.kind/\x.kind<=6:=by
     rcases((ll t).1 h.1).2.2 with⟨_,q,_⟩|⟨q,_⟩|⟨q,_⟩|⟨_,_,_,q⟩
     ·omega
     ·omega
     ·omega
     ·exact q x hx
    have ht:=(OJ (h.kid hx).1 (by omega) (by omega)).1;simp only;have hd:∀y,y∈x.kids->jE y+1<=jE t:=λy hy=>by
     have:=wP hy;have:=wP hx;omega
    refine⟨by omega,by omega,h.kid hx,λq=>Dx (h.kid hx).1 (by omega),λy hy=>?_,λ_=>hd⟩;rw[aB h0];exact hd y hy
  ·rw[aC h7];refine⟨by simp,λp hp=>?_⟩;simp only[aL]at hp;subst hp;have ht:=OJ h.1 h0 h7;simp only;refine⟨by omega,by omega,h,λq=>Dx h.1 (by omega),λy hy=>?_,λ_ y hy=>wP hy⟩;have:=wP hy;rw[aB h0];omega
theorem Xt(v:gT->gT->Int->gY)(R:List ic)(lb:Int):∀(L:List ic) (C:gY),(uu v R lb L C).tags.length=C.tags.length
|[],C=>rfl
|m::l,C=>by
 rw[uu,Xt v R lb l];unfold yC;split
 ·simp[tC,gY.tags]
 split
 ·rfl
 split
 ·rw[(OI _ _ _ _ _).1]
 ·rfl
theorem NF.field{t:gT}(h:NF t)(k:fE):NF (kH t k).1/\((kH t k).1∈t.kids\/(kH t k).1=noT):=by
 cases q:(kH t k).2 with
 |true=>have hm:=I8 t.names t.kids k q;exact⟨h.kid hm,.inl hm⟩
 | false=>
  have:(kH t k).1=noT:=by
   have hz:∀(ns:List fE) (ks:List gT),(nX ns ks k).2=false->(nX ns ks k).1=noT:=λns=>by
    induction ns with
    |nil=>intro ks _;rw[nX];intros;contradiction
    | cons n ns ih=>
     intro ks;cases ks with
     |nil=>intro _;rw[nX];intros;contradiction
     |cons x ks=>
      rw[nX];split
      ·intro h;cases h
      ·exact ih ks
   exact hz _ _ q
  rw[this];exact⟨NF.no,.inr rfl⟩
structure RI (C:gY) (ns:List fE):Prop where
 len:C.names.length=C.fields.length
 names:C.names.Pairwise jl
 fields:∀x,x∈C.fields->iY x=true/\x≠idC/\mZ 16 x
 needs:(∀x,x∈C.needs->x.2≠0)/\(C.needs.map (·.1)).Nodup
 an:∀x,x∈C.names->∀k,k∈ns->jl x k
 ad:∀x,x∈C.needs->∀k,k∈ns->jl x.1 k
theorem RI.put{C:gY}{k:fE}{ns:List fE}(h:RI C (k::ns))(hk:(k::ns).Pairwise jl){d:gY}(hd:iY d=true)(sd:mZ 16 d):RI (jm C k d) ns/\(jm C k d).names.length<=C.names.length+1/\(jm C k d).needs=C.needs:=by
 have hk':=bK.1 hk;have h0:RI C ns:=⟨h.len,h.names,h.fields,h.needs,λx hx k hk=>h.an x hx k (by simp[hk]),λx hx k hk=>h.ad x hx k (by simp[hk])⟩
 unfold jm;split
 ·exact⟨h0,by omega,rfl⟩
 ·rename_i q;refine⟨⟨?_,?_,?_,h.needs,?_,h0.ad⟩,?_,rfl⟩
  ·simpa[gY.names,gY.fields]using h.len
  ·simp only[gY.names];exact dD.2 ⟨h.names,by simp,λx hx y hy=>by rw[aL.1 hy];exact h.an x hx k (by simp)⟩
  ·intro x hx;simp only[gY.fields,aQ,aL]at hx;rcases hx with hx|rfl
   ·exact h.fields x hx
   ·exact⟨hd,λe=>q ((Ah _ _).2 e),sd⟩
  ·intro x hx y hy;simp only[gY.names,aQ,aL]at hx;rcases hx with hx|rfl
   ·exact h0.an x hx y hy
   ·exact hk'.1 y hy
  ·simp[gY.names]
theorem RI.tail{C:gY}{k:fE}{ns:List fE}(h:RI C (k::ns)):RI C ns:=⟨h.len,h.names,h.fields,h.needs,λx hx k hk=>h.an x hx k (by simp[hk]),λx hx k hk=>h.ad x hx k (by simp[hk])⟩
section
variable {v:gT->gT->Int->gY} {lb:Int} (l2:2<=lb) (hv:∀x y,NF x->NF y->iY (v x y lb)=true/\mZ 16 (v x y lb))
include hv in
theorem Xu:∀(ns:List fE) (ks:List gT) (C:gY),ns.Pairwise jl->(∀x,x∈ks->NF x)->RI C ns->RI (o5 v lb ns ks C) []/\(o5 v lb ns ks C).names.length<=C.names.length+ns.length/\(o5 v lb ns ks C).needs=C.needs
|[],ks,C,_,_,h=>by rw[o5];exact⟨h,by omega,rfl⟩;intros;contradiction
|n::ns,[],C,_,_,h=>by rw[o5];exact⟨⟨h.len,h.names,h.fields,h.needs,λ_ _ k hk=>(by cases hk),λ_ _ k hk=>(by cases hk)⟩,by omega,rfl⟩;intros;contradiction
|n::ns,k::ks,C,hn,hk,h=>by
 rw[o5];have h1:=hv k noT (hk k (by simp)) NF.no;obtain⟨g1,g2,g3⟩:=h.put hn h1.1 h1.2;have h2:=Xu ns ks (jm C n (v k noT lb)) (bK.1 hn).2 (λx hx=>hk x (by simp[hx])) g1;exact⟨h2.1,by have:=h2.2.1;simp only[length_cons];omega,h2.2.2.trans g3⟩
include l2 in
theorem RI.need{C:gY}{k:fE}{ns:List fE}(h:RI C (k::ns)):(∀x,x∈C.names->jl x k)/\((oH C k lb).needs.map (·.1)).Nodup/\(∀x,x∈(oH C k lb).needs->x.2≠0):=by
 refine⟨λx hx=>h.an x hx k (by simp),?_,λx hx=>?_⟩
 ·rw[Cu,map_append];refine bv.2 ⟨h.needs.2,by simp,λx hx y hy e=>?_⟩;obtain⟨z,hz,rfl⟩:=ae.1 hx;simp only[map_cons,map_nil,aL]at hy;have:=h.ad z hz k (by simp);rw[e,hy]at this;exact Bc _ this
 ·rw[Cu,aQ,aL]at hx;rcases hx with hx|rfl
  ·exact h.needs.1 x hx
  ·simp only;omega
include l2 hv in
theorem Xv(m:ic)(nm:NF m.t):∀(ns:List fE) (ks:List gT) (C:gY),ns.Pairwise jl->(∀x,x∈ks->NF x)->RI C ns->RI (o6 v m lb ns ks C) []/\(o6 v m lb ns ks C).names.length<=C.names.length+ns.length/\(o6 v m lb ns ks C).needs.length<=C.needs.length+ns.length
|[],ks,C,_,_,h=>by rw[o6];exact⟨h,by omega,by omega⟩;intros;contradiction
|n::ns,[],C,_,_,h=>by rw[o6];exact⟨⟨h.len,h.names,h.fields,h.needs,λ_ _ k hk=>(by cases hk),λ_ _ k hk=>(by cases hk)⟩,by omega,by omega⟩;intros;contradiction
| n ::ns,k::ks,C,hn,hk,h=>by
 rw[o6];have hn':=bK.1 hn;have h1:=hv (kH m.t n).1 k (nm.field n).1 (hk k (by simp));generalize v (kH m.t n).1 k lb=d at*
 obtain⟨C2,hC2⟩:∃C2,(if(kH m.t n).2=true\/m.opn=true then jm (if(kH m.t n).2=false then oH C n lb else C) n d else(if(kH m.t n).2=false then oH C n lb else C))=C2:=⟨_,rfl⟩
 show RI (o6 v m lb ns ks _) []/\_;have key:RI C2 ns/\C2.names.length<=C.names.length+1/\C2.needs.length<=C.needs.length+1:=by
  have hP:RI (jm C n d) ns/\(jm C n d).names.length<=C.names.length+1/\(jm C n d).needs=C.needs:=h.put hn h1.1 h1.2;have hN:=h.need l2;by_cases q:(kH m.t n).2=false
  ·rw[aC q]at hC2;have e1:∀D:gY,RI D ns->D.needs=C.needs->RI (oH D n lb) ns:=λD hD eD=>by
    have hdn:(oH D n lb).needs=(oH C n lb).needs:=by rw[Cu,Cu,eD]
    refine⟨hD.len,hD.names,hD.fields,by rw[hdn];exact⟨hN.2.2,hN.2.1⟩,hD.an,λx hx y hy=>?_⟩;rw[Cu,aQ,aL]at hx;rcases hx with hx|rfl
    ·exact hD.ad x hx y hy
    ·exact hn'.1 y hy
   by_cases o:(kH m.t n).2=true\/m.opn=true
   ·rw[aC o]at hC2;have e2:jm (oH C n lb) n d=oH (jm C n d) n lb:=by
     unfold jm oH;split<;>rfl
    rw[<-hC2,e2];exact⟨e1 _ hP.1 hP.2.2,hP.2.1,by rw[Cu,hP.2.2];simp⟩
   ·rw[aB o]at hC2;rw[<-hC2];exact⟨e1 _ h.tail rfl,by simp,by simp⟩
  ·rw[aB q]at hC2;have o:(kH m.t n).2=true\/m.opn=true:=.inl (by simpa using q);rw[aC o]at hC2;rw[<-hC2];exact⟨hP.1,hP.2.1,by rw[hP.2.2];omega⟩
 rw[hC2];have h2:=Xv m nm ns ks C2 hn'.2 (λx hx=>hk x (by simp[hx])) key.1;exact⟨h2.1,by have:=h2.2.1;simp only[length_cons];omega,by have:=h2.2.2;simp only[length_cons];omega⟩
include l2 hv in
theorem zIV(m n:ic)(nm:NF m.t)(nn:NF n.t)(C:gY)(c1:C.needs=[])(c2:C.names=[])(c3:C.fields=[]):
  RI (uX v m n lb C) []/\(uX v m n lb C).names.length<=16/\(uX v m n lb C).needs.length<=16:=by
 have h0:∀ns,RI C ns:=λns=>⟨by rw[c2,c3];rfl,by rw[c2];simp,(by rw[c3];intro x hx;cases hx),by rw[c1];exact⟨λx hx=>(by cases hx),by simp⟩,(by rw[c2];intro x hx;cases hx),(by rw[c1];intro x hx;cases hx)⟩
 have hm:=BR nm.1;have hn:=BR nn.1;unfold uX;split
 ·split
  ·exact⟨h0 [],by rw[c2];simp,by rw[c1];simp⟩
  ·have h:=Xu hv m.t.names m.t.kids C ((wV _).1 nm.2).1 (λx hx=>nm.kid hx) (h0 _);exact⟨h.1,by have:=h.2.1;rw[c2]at this;simp only[length_nil]at this;omega,by rw[h.2.2,c1];simp⟩
 ·have h:=Xv l2 hv m nm n.t.names n.t.kids C ((wV _).1 nn.2).1 (λx hx=>nn.kid hx) (h0 _);exact⟨h.1,by have:=h.2.1;rw[c2]at this;simp only[length_nil]at this;omega,by have:=h.2.2;rw[c1]at this;simp only[length_nil]at this;omega⟩
end
theorem OL(C:gY)(i:Nat)(x:Int)(j:Nat)(h:j≠i):iE (tC C i x) j=iE C j:=by
 unfold iE tC;simp only[gY.tags,aH];rw[getElem?_set_ne (Ne.symm h)]
structure MI (C:gY) (done:List Int):Prop where
 may:May C
 n4:(4:Int)∉done->iE C 4=0/\C.needs=[]/\C.names=[]/\C.fields=[]
 n5:(5:Int)∉done->iE C 5=0/\C.fn=[]
 sm:mZ 16 C
theorem MI.step{v:gT->gT->Int->gY}{R:List ic}{lb:Int}(l2:2<=lb)(hv:∀x y l,2<=l->NF x->NF y->iY (v x y l)=true/\mZ 16 (v x y l)){C:gY}{done:List Int}{m:ic}(h:MI C done)(hm:m.tag∉done)(mt:0<=m.tag/\m.tag<6)(nm:NF m.t)(m5:m.tag=5->m.t.kids.length=2)
  (hR:∀p,p∈R->NF p.t/\(p.tag=5->p.t.kids.length=2)):MI (yC v R lb m C) (done++[m.tag]):=by
 have hsm:=(ym _ _).1 h.sm;unfold yC;split
 ·have h4:m.tag.toNat≠4->iE (tC C m.tag.toNat lb) 4=iE C 4:=λq=>OL _ _ _ _ (Ne.symm q);have h5:m.tag.toNat≠5->iE (tC C m.tag.toNat lb) 5=iE C 5:=λq=>OL _ _ _ _ (Ne.symm q);refine⟨⟨by simpa[tC,gY.tags]using h.may.tags,h.may.len,h.may.fn,λq=>?_,λq=>?_,h.may.needs,h.may.names,h.may.fields⟩,λq=>?_,λq=>?_,?_⟩
  ·by_cases e:m.tag=4
   ·exact(h.n4 (e▸hm)).2.2.1
   ·rw[h4 (by omega)]at q;exact h.may.t4 q
  ·by_cases e:m.tag=5
   ·exact(h.n5 (e▸hm)).2
   ·rw[h5 (by omega)]at q;exact h.may.t5 q
  ·simp only[aQ,aL,dU]at q;rw[h4 (by omega)];exact h.n4 q.1
  ·simp only[aQ,aL,dU]at q;rw[h5 (by omega)];exact h.n5 q.1
  ·exact(ym _ _).2 hsm
 rename_i q;have hq:∀t,m.tag=t->(jy R t).1∈R/\(jy R t).1.tag=t:=λt e=>by
  subst e;exact Dy (by simpa using q)
 split
 ·rename_i e5;have hp:=hq 5 e5;have nq:=hR _ hp.1;have m2:=m5 e5;have q2:=nq.2 hp.2;have f0:=hv (jY (jy R 5).1.t) (jY m.t) (qH lb) (by unfold qH;split<;>omega) (nq.1.kid (I9 q2).1) (nm.kid (I9 m2).1);have f1:=hv (jZ m.t) (jZ (jy R 5).1.t) lb l2 (nm.kid (FV m2).1) (nq.1.kid (FV q2).1);have n5:=h.n5 (e5▸hm);generalize v (jY (jy R 5).1.t) (jY m.t) (qH lb)=f at*
  generalize v (jZ m.t) (jZ (jy R 5).1.t) lb=g at*
  refine⟨⟨h.may.tags,h.may.len,?_,h.may.t4,λq=>absurd n5.1 q,h.may.needs,h.may.names,h.may.fields⟩,λq=>?_,λq=>?_,?_⟩
  ·show nC f g=[]\/∃f' g',nC f g=[f',g']/\_;unfold nC;split
   ·exact .inl rfl
   ·rename_i e;refine .inr ⟨f,g,rfl,f0.1,f1.1,λx=>e ?_⟩;rw[x.1,x.2,JC];try rfl
  ·simp only[aQ,aL,dU]at q;exact h.n4 q.1
  ·exact absurd (by rw[e5];simp) q
  ·refine(ym _ _).2 ⟨hsm.1,hsm.2.1,?_,hsm.2.2.2.1,?_⟩
   ·show(nC f g).length<=16;unfold nC;split<;>simp
   ·intro x hx;have hx:x∈nC f g:=hx;unfold nC at hx;split at hx
    ·cases hx
    ·simp only[aN,dE,eY]at hx;rcases hx with rfl|rfl
     ·exact f0.2
     ·exact f1.2
 split
 ·rename_i e5 e4;have hp:=hq 4 e4;have nq:=(hR _ hp.1).1;obtain⟨c0,c1,c2,c3⟩:=h.n4 (e4▸hm);have hr:=zIV l2 (λx y nx ny=>hv x y lb l2 nx ny) m (jy R 4).1 nm nq C c1 c2 c3;have hk:=OI v m (jy R 4).1 lb C;generalize uX v m (jy R 4).1 lb C=C' at*
  have hz:∀i,iE C' i=iE C i:=λi=>by unfold iE;rw[hk.1]
  refine⟨⟨by rw[hk.1];exact h.may.tags,hr.1.len,by rw[hk.2];exact h.may.fn,λq=>absurd (by rw[hz];exact c0) q,λq=>by rw[hz]at q;rw[hk.2];exact h.may.t5 q,hr.1.needs,hr.1.names,λx hx=>⟨(hr.1.fields x hx).1,(hr.1.fields x hx).2.1⟩⟩,λq=>absurd (by rw[e4];simp) q,λq=>?_,?_⟩
  ·simp only[aQ,aL,dU]at q;rw[hz,hk.2];exact h.n5 q.1
  ·exact(ym _ _).2 ⟨hr.2.2,by rw[<-hr.1.len];exact hr.2.1,by rw[hk.2];exact hsm.2.2.1,λx hx=>(hr.1.fields x hx).2.2,by rw[hk.2];exact hsm.2.2.2.2⟩
 ·rename_i e5 e4;refine⟨h.may,λq=>?_,λq=>?_,h.sm⟩
  ·simp only[aQ,aL,dU]at q;exact h.n4 q.1
  ·simp only[aQ,aL,dU]at q;exact h.n5 q.1
theorem MI.all{v:gT->gT->Int->gY}{R:List ic}{lb:Int}(l2:2<=lb)(hv:∀x y l,2<=l->NF x->NF y->iY (v x y l)=true/\mZ 16 (v x y l))(hR:∀p,p∈R->NF p.t/\(p.tag=5->p.t.kids.length=2)):∀(L:List ic) (C:gY) (done:List Int),MI C done->(done++L.map (·.tag)).Nodup->(∀p,p∈L->0<=p.tag/\p.tag<6/\NF p.t/\(p.tag=5->p.t.kids.length=2))->∃d,MI (uu v R lb L C) d
|[],C,done,h,_,_=>⟨done,h⟩
|m::L,C,done,h,hn,hL=>by
 rw[uu];have hm:=hL m (by simp);have hnot:m.tag∉done:=λq=>(bv.1 hn).2.2 _ q m.tag (by simp) rfl;exact MI.all l2 hv hR L _ (done++[m.tag]) (h.step l2 hv hnot ⟨hm.1,hm.2.1⟩ hm.2.2.1 hm.2.2.2 hR) (by simpa using hn) (λp hp=>hL p (by simp[hp]))
theorem Xw:∀(n:Nat) (a b:gT) (lb:Int),2<=lb->NF a->NF b->iY (tZ n a b lb)=true/\mZ 16 (tZ n a b lb)
|0,a,b,lb,_,_,_=>⟨Cs,Aj _⟩
| n+1,a,b,lb,l2,na,nb=>by
 rw[tZ];split
 ·exact⟨Cs,Aj _⟩
 ·have pa:=JM na;have pb:=JM nb;obtain⟨d,hd⟩:=MI.all l2 (λx y l hl nx ny=>Xw n x y l hl nx ny) (λp hp=>⟨(pb.2 p hp).2.2.1,(pb.2 p hp).2.2.2.1⟩) (kW a) idC [] ⟨May.idC,λ_=>⟨Ai 4,rfl,rfl,rfl⟩,λ_=>⟨Ai 5,rfl⟩,Aj _⟩ (by simpa using pa.1) (λp hp=>⟨(pa.2 p hp).1,(pa.2 p hp).2.1,(pa.2 p hp).2.2.1,(pa.2 p hp).2.2.2.1⟩);exact⟨(uq _).2 hd.may,hd.sm⟩
end Go.Gr
