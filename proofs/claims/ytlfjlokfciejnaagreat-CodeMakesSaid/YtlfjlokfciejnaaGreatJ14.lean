/- Of ours. -/
import Derived.Test.YtlfjlokfciejnaaGreatJ12
set_option maxRecDepth 20000
set_option maxHeartbeats 4000000
set_option linter.unusedVariables false
set_option linter.unusedSectionVars false
set_option linter.unusedSimpArgs false
set_option linter.defProp false
set_option linter.unnecessarySimpa false
open List renaming length->lN
open Bool renaming true->tT,false->oK
open Option renaming some->sS,none->nN
namespace Go.Gr
open Go.Abs Go.Proofs List
mutual
def ja:gT->gT->Bool
|.mk t n s f g,.mk t' n' s' f' g'=>decide (t=t')&&(decide (n=n')&&(decide (s=s')&&(AQ f f'&&AQ g g')))
def AQ:List gT->List gT->Bool
|[],[]=>tT
|a::l,b::k=>ja a b&&AQ l k
|_,_=>oK
end
def r?:gT:=.mk [0,0,0,0,0,0] [] [] [] []
def zG:h_ Pg 73 [] (.agg r?.enc):=by
 refine zHr oC λo c hN hp=>?_;unfold NT;simp[r?,gT.enc,encI,u?,encS,gT.j?]
def kG{α:Type}(q:α->α->Bool):List α->List α->Bool
|[],[]=>tT
|a::l,b::k=>q a b&&kG q l k
|_,_=>oK
def UK{α:Type}(q:α->α->Bool):∀{a b:List α},lN a≠lN b->kG q a b=oK
|[],[],h=>by simp at h
|[],_::_,h=>rfl
|_::_,[],h=>rfl
|a::l,b::k,h=>by simp only[kG];rw[UK q (a:=l) (b:=k) (uM h)];simp
def zvG:∀(a b:List gT),AQ a b=kG ja a b
|[],[]=>by simp[AQ,kG]
|[],_::_=>by simp[AQ,kG]
|_::_,[]=>by simp[AQ,kG]
|a::l,b::k=>by simp[AQ,kG,zvG l k]
def zHQ(a b:gT):ja a b=(decide (a.tags=b.tags)&&(decide (a.i_=b.i_)&&(decide (a.a_=b.a_)&&(kG ja a.fields b.fields&&kG ja a.fn b.fn)))):=by
 cases a;cases b;simp only[ja,zvG];rfl
def UL{α:Type}{a b:List α}{j:Nat}(ha:j<lN a)(hb:j<lN b)(h:a.take j=b.take j)(e:a[j]=b[j]):a.take (j+1)=b.take (j+1):=by
 rw[aN ha,aN hb,h,e]
def UM{α:Type}{a b:List α}{j:Nat}(ha:j=lN a)(hb:lN a=lN b)(h:a.take j=b.take j):a=b:=by
 subst ha;rw[bJ,aD oM]at h;exact h
def zA7{α:Type}(q:α->α->Bool):∀{a b:List α} {j:Nat},lN a<=j->lN a=lN b->kG q (a.drop j) (b.drop j)=tT
|a,b,j,h,e=>by rw[bR h,bR oM];try rfl
def zFw(a b:gT)(ih:∀x,x∈a.fields\/x∈a.fn->∀y,h_ Pg 31 [.agg x.enc,.agg y.enc] (.one (.bool (ja x y)))):h_ Pg 31 [.agg a.enc,.agg b.enc] (.one (.bool (ja a b))):=by
 have e:=zHQ a b;rw[gT.l_ a,gT.l_ b];refine zCs oC λo c hN hp=>?_;have hl:lN a.tags<=zaf/\lN a.i_<=zaf/\lN a.a_<=zaf/\lN a.fields<=zaf/\lN a.fn<=zaf:=by
  have:=o.1;simp only[DV.ok,D.okL,D.ok,Qc,Qd,Jb,aa]at this;exact⟨this.1.1,this.2.1.1,this.2.2.1.1,this.2.2.2.1.1,this.2.2.2.2.1.1⟩
 unfold zaf at hl;let⟨l1,l2,l3,l4,l5⟩:=hl;simp[zqf];have f1:lN a.tags≠lN b.tags->decide (a.tags=b.tags)=oK:=λh=>bL λe=>h (by rw[e]);have f2:lN a.i_≠lN b.i_->decide (a.i_=b.i_)=oK:=λh=>bL λe=>h (by rw[e]);have f3:lN a.a_≠lN b.a_->decide (a.a_=b.a_)=oK:=λh=>bL λe=>h (by rw[e]);have f4:lN a.fields≠lN b.fields->kG ja a.fields b.fields=oK:=UK _;have f5:lN a.fn≠lN b.fn->kG ja a.fn b.fn=oK:=UK _;apply gM<;>intro h1;rotate_left
 .have h1:lN a.tags≠lN b.tags:=oI h1;simp[e,f1 h1]
 have h1:lN a.tags=lN b.tags:=oI h1;apply gM<;>intro h2;rotate_left
 .have h2:lN a.i_≠lN b.i_:=oI h2;simp[e,f2 h2]
 have h2:lN a.i_=lN b.i_:=oI h2;apply gM<;>intro h3;rotate_left
 .have h3:lN a.a_≠lN b.a_:=oI h3;simp[e,f3 h3]
 have h3:lN a.a_=lN b.a_:=oI h3;apply gM<;>intro h4;rotate_left
 .have h4:lN a.fields≠lN b.fields:=oI h4;simp[e,f4 h4]
 have h4:lN a.fields=lN b.fields:=oI h4;apply gM<;>intro h5
 .have h5:lN a.fn≠lN b.fn:=oI h5;simp[e,f5 h5]
 have h5:lN a.fn=lN b.fn:=oI h5;refine fO gm hp Sv [5] (λj:Nat=>j<=lN a.tags/\a.tags.take j=b.tags.take j) (λj=>[.c (.d (.int .i64 j))]) (λ_=>[]) (λj=>lN a.tags-j) 0 [] oC (by simp[Sv]) λj ⟨g1,g2⟩=>?_;simp[zmY,Sv];apply gM<;>intro h
 .have hj:j<lN a.tags:=uM h;have _q:j<lN b.tags:=oM;simp[aA hj,aA _q];refine⟨oD,gM (λh=>?_) (λh=>?_)⟩
  .simp at h;have:decide (a.tags=b.tags)=oK:=bL λe=>h (getElem_of_eq e _);rw[e,this];try rfl
  .simp at h;exact fE (j+1) [] ⟨oM,UL hj _q g2 h⟩ oM (by simp;exact wI)
 have hj:j=lN a.tags:=oI h;have d1:=UM hj h1 g2;refine fO gm hp Sw [6] (λj:Nat=>j<=lN a.i_/\a.i_.take j=b.i_.take j) (λj=>[.c (.d (.int .i64 j))]) (λ_=>[]) (λj=>lN a.i_-j) 0 [] oC (by simp[Sw]) λj ⟨g1,g2⟩=>?_;simp[zmZ,Sw];apply gM<;>intro h
 .have hj:j<lN a.i_:=uM h;have _q:j<lN b.i_:=oM;simp[u?,aA hj,aA _q];refine⟨oD,gM (λh=>?_) (λh=>?_)⟩
  .have:decide (a.i_=b.i_)=oK:=bL λe=>by
    have:=getElem_of_eq e hj;rw[this]at h;simp at h
   rw[e,this,Bool.false_and,Bool.and_false]
  .simp at h;exact fE (j+1) [] ⟨oM,UL hj _q g2 (Prod.ext h.1 h.2)⟩ oM (by simp;exact wI)
 have hj:j=lN a.i_:=oI h;have d2:=UM hj h2 g2;refine fO gm hp Sy [7] (λj:Nat=>j<=lN a.a_/\a.a_.take j=b.a_.take j) (λj=>[.c (.d (.int .i64 j))]) (λ_=>[]) (λj=>lN a.a_-j) 0 [] oC (by simp[Sy]) λj ⟨g1,g2⟩=>?_;simp[zm0,Sy];apply gM<;>intro h
 .have hj:j<lN a.a_:=uM h;have _q:j<lN b.a_:=oM;simp[aA hj,aA _q];refine⟨oD,gM (λh=>?_) (λh=>?_)⟩
  .simp at h;have:decide (a.a_=b.a_)=oK:=bL λe=>h (getElem_of_eq e _);rw[e,this,Bool.false_and,Bool.and_false,Bool.and_false]
  .simp at h;exact fE (j+1) [] ⟨oM,UL hj _q g2 h⟩ oM (by simp;exact wI)
 have hj:j=lN a.a_:=oI h;have d3:=UM hj h3 g2;have e:ja a b=(kG ja a.fields b.fields&&kG ja a.fn b.fn):=by rw[e,bS d1,bS d2,bS d3];try rfl
 refine fO gm hp Sz [8] (λj:Nat=>j<=lN a.fields/\kG ja (a.fields.drop j) (b.fields.drop j)=kG ja a.fields b.fields) (λj=>[.c (.d (.int .i64 j))]) (λ_=>[]) (λj=>lN a.fields-j) 0 [] oC (by simp[Sz]) λj ⟨g1,g2⟩=>?_;simp[zm1,Sz];apply gM<;>intro h
 .have hj:j<lN a.fields:=uM h;have _q:j<lN b.fields:=oM;rw[aF hj,aF _q,kG]at g2;simp[aA hj,aA _q];apply gQ (ih _ (.inl (aO hj)) _);simp;refine⟨oD,gM (λh=>?_) (λh=>?_)⟩
  .simp at h;rw[h,Bool.false_and]at g2;rw[e,<-g2];try rfl
  .simp at h;rw[h,Bool.true_and]at g2;exact fE (j+1) [] ⟨oM,g2⟩ oM (by simp;exact wI)
 have hj:j=lN a.fields:=oI h;have e:ja a b=kG ja a.fn b.fn:=by rw[e,<-g2,zA7 ja oM h4];try rfl
 refine fO gm hp TA [10] (λj:Nat=>j<=lN a.fn/\kG ja (a.fn.drop j) (b.fn.drop j)=kG ja a.fn b.fn) (λj=>[.c (.d (.int .i64 j))]) (λ_=>[]) (λj=>lN a.fn-j) 0 [] oC (by simp[TA]) λj ⟨g1,g2⟩=>?_;simp[zm2,TA];apply gM<;>intro h
 .have hj:j<lN a.fn:=uM h;have _q:j<lN b.fn:=oM;rw[aF hj,aF _q,kG]at g2;simp[aA hj,aA _q];apply gQ (ih _ (.inr (aO hj)) _);simp;refine⟨oD,gM (λh=>?_) (λh=>?_)⟩
  .simp at h;rw[h,Bool.false_and]at g2;rw[e,<-g2]
  .simp at h;rw[h,Bool.true_and]at g2;exact fE (j+1) [] ⟨oM,g2⟩ oM (by simp;exact wI)
 have hj:j=lN a.fn:=oI h;have e:ja a b=tT:=by rw[e,<-g2,zA7 ja oM h5]
 simp[e]
mutual
def UN:∀(a b:gT),h_ Pg 31 [.agg a.enc,.agg b.enc] (.one (.bool (ja a b)))
|.mk t n s f g,b=>zFw _ b λx hx y=>hx.elim (λh=>UO f x h y) (λh=>UO g x h y)
def UO:∀(l:List gT) (x:gT),x∈l->∀y,h_ Pg 31 [.agg x.enc,.agg y.enc] (.one (.bool (ja x y)))
|c::l,x,h,y=>by
 cases aM.1 h with
 |inl e=>rw[e];exact UN c y
 |inr e=>exact UO l x e y
end
def EF(a:gT):h_ Pg 44 [.agg a.enc] (.one (.bool (ja a r?))):=by
 refine zCt oC λo c hN hp=>?_;simp[zqg];apply gQ zG;simp;apply gQ (UN a r?);simp;decide
def EG(a b:fD):Bool:=Op.bytesLess a.data.toList b.data.toList||decide (a=b)
def zH:List fD->Bool
|a::b::l=> !EG b a&&zH (b::l)
|_=>tT
def zvH:∀{l:List fD} {i:Nat} (h:i+1<lN l),EG l[i+1] l[i]=tT->zH l=oK
|a::b::l,0,h,e=>by
 simp only[getElem_cons_succ,getElem_cons_zero]at e;simp[zH,e]
|a::b::l,i+1,h,e=>by
 have:=zvH (l:=b::l) (i:=i) (uM h) (uM e);simp[zH,this]
|[],_,h,_=>by simp at h
|[_],_,h,_=>by simp at h
def ztn:∀{l:List fD},(∀i (h:i+1<lN l),EG l[i+1] l[i]=oK)->zH l=tT
|[],_=>rfl
|[_],_=>rfl
| a::b::l,H=>by
 have h0:=H 0 oC;simp only[getElem_cons_succ,getElem_cons_zero]at h0;have:=ztn (l:=b::l) λi h=>by
  have:=H (i+1) (uM h);simpa only[getElem_cons_succ]using this
 simp[zH,h0,this]
def Kt(l:sG)(j:Nat):Prop:=∀i (h:i<lN l),i<j->l[i].2≠0/\∀k (hk:k<i),l[k].1≠l[i].1
def yZ:List fD->List (fD × Int)->Bool
|_,[]=>tT
|seen,x::l=>decide (x.2≠0)&&(!(seen.any λy=>decide (y=x.1))&&yZ (x.1::seen) l)
def UQ:∀(l:List (fD × Int)) (seen:List fD),yZ seen l=tT↔(∀i (h:i<lN l),l[i].1∉seen)/\Kt l (lN l)
|[],seen=>by simp[yZ,Kt]
| x ::l,seen=>by
 have hm:(!(seen.any λy=>decide (y=x.1)))=tT↔x.1∉seen:=by
  simp;exact⟨λh hx=>h _ hx rfl,λh y hy e=>h (e▸hy)⟩
 simp only[yZ,aG,aI];rw[UQ l (x.1::seen),hm];constructor
 .rintro⟨h1,h2,h3,h4⟩
  refine⟨λi h=>?_,λi h hj=>?_⟩
  .cases i with
   |zero=>exact h2
   |succ i=>have:=h3 i (uM h);simp only[aM,d9]at this;exact this.2
  .cases i with
   |zero=>exact⟨h1,λk hk=>by omega⟩
   |succ i=>
    have h':i<lN l:=uM h;have:=h4 i h' h';refine⟨this.1,λk hk=>?_⟩;cases k with
    |zero=>have:=h3 i h';simp only[aM,d9]at this;exactλe=>this.1 e.symm
    |succ k=>exact this.2 k oM
 .rintro⟨h1,h2⟩
  refine⟨(h2 0 oC oC).1,h1 0 oC,λi h=>?_,λi h hj=>?_⟩
  .simp only[aM,d9];exact⟨λe=>(h2 (i+1) (uM h) (uM h)).2 0 oM e.symm,h1 (i+1) (uM h)⟩
  .have:=h2 (i+1) (uM h) (uM h);exact⟨this.1,λk hk=>this.2 (k+1) oM⟩
def zyX{l:sG}(h:Kt l (lN l)):yZ [] l=tT:=(UQ l []).2 ⟨λ_ _=>by simp,h⟩
def znh{l:sG}(h:¬Kt l (lN l)):yZ [] l=oK:=by
 cases e:yZ [] l with
 |false=>rfl
 |true=>exact absurd ((UQ l []).1 e).2 h
def m?(d:gT)(k:Nat):Int:=d.tags.getD k 0
def rq(d:gT):Bool:=
 decide (lN d.tags=6/\lN d.a_=lN d.fields/\(lN d.fn=0\/lN d.fn=2))&&
 (decide (¬(m? d 4≠0/\0<lN d.a_\/m? d 5≠0/\0<lN d.fn))&&(yZ [] d.i_&&zH d.a_))
def UR{c:Ctx}(hp:c.pure)(d:gT){i:Nat}(hi:i<lN d.i_)(hl:lN d.i_<=zaf){Q:Exit->St->Prop}{S:St}{g}
  (h0:gy [] S [(4,.c (.d (.int .i64 0))),(1,.c (.d (.rp d.enc 0))),(3,.c (.d (.int .i64 i)))] [])
  (hQ:∀T x,(∀k (hk:k<i),d.i_[k].1≠d.i_[i].1)->Abs.look T 1=.c (.d (.rp d.enc 0))->Abs.look T 3=.c (.d (.int .i64 i))->Q (.exit 2) ⟨T,r_ [],x⟩)
  (hR:∀T x,¬(∀k (hk:k<i),d.i_[k].1≠d.i_[i].1)->Abs.look T 2=.c (.d (.bool oK))->Q .ret ⟨T,r_ [],x⟩):mI Pg c TC Q g S:=by
 unfold zaf at hl;rw[gT.l_]at h0 hQ;refine fM gm hp (λk:Nat=>k<=i/\∀m (hm:m<i),m<k->d.i_[m].1≠d.i_[i].1) (λk=>[(4,.c (.d (.int .i64 k))),(1,.c (.d (.rp _ 0))),(3,.c (.d (.int .i64 i)))]) (λ_=>[]) (λk=>i-k) 0 [] oC h0 λk ⟨g1,g2⟩=>?_;simp[TC];apply gM<;>intro h
 .have hk:k<i:=uM h;simp[u?,aA hi,aA (show k<lN d.i_ by omega)];refine⟨oD,gM (λh=>?_) (λh=>?_)⟩
  .simp at h;exact hR _ _ (λH=>H k hk h) oC
  .simp at h;refine fE (k+1) [] ⟨oM,λm hm hmk=>?_⟩ oM (by simp;exact wI);by_cases e:m=k
   .subst e;exact h
   .exact g2 m hm oM
 .have hk:k=i:=oI h;exact hQ _ _ (λm hm=>g2 m hm oM) oC oC
def own0{c:Ctx}(hp:c.pure)(d:gT)(hl:lN d.i_<=zaf){Q:Exit->St->Prop}{S:St}{g}
  (h0:gy [] S [(3,.c (.d (.int .i64 0))),(1,.c (.d (.rp d.enc 0)))] [])
  (hQ:∀T x,yZ [] d.i_=tT->Abs.look T 1=.c (.d (.rp d.enc 0))->Q (.exit 0) ⟨T,r_ [],x⟩)
  (hR:∀T x,yZ [] d.i_=oK->Abs.look T 2=.c (.d (.bool oK))->Q .ret ⟨T,r_ [],x⟩):mI Pg c TD Q g S:=by
 have hl':=hl;unfold zaf at hl;refine fM gm hp (λj:Nat=>j<=lN d.i_/\Kt d.i_ j) (λj=>[(3,.c (.d (.int .i64 j))),(1,.c (.d (.rp d.enc 0)))]) (λ_=>[]) (λj=>lN d.i_-j) 0 [] ⟨oC,λi h hj=>by omega⟩ h0 λj ⟨g1,g2⟩=>?_;unfold TD;have hd1:d.enc[1]?=sS (.sl oK 2 (u? d.i_)):=by rw[gT.l_];try rfl
 simp[hd1];apply gM<;>intro h
 .have hj:j<lN d.i_:=uM h;simp[u?,aA hj];apply gM<;>intro h
  .simp at h;exact hR _ _ (znh λH=>(H j hj hj).1 h) oC
  .simp at h;refine UR hp d hj hl' oC (λT x H e1 e3=>?_) (λT x H e2=>?_)
   .simp;simp[e3];refine fE (j+1) [] ⟨oM,λi hi hij=>?_⟩ oM (by simp[e1];exact wI);by_cases e:i=j
    .subst e;exact⟨h,H⟩
    .exact g2 i hi oM
   .exact hR _ _ (znh λH'=>H (H' j hj hj).2) e2
 .have hj:j=lN d.i_:=oI h;subst hj;exact hQ _ _ (zyX g2) oC
def Ku{c:Ctx}(hp:c.pure)(d:gT)(hl:lN d.a_<=zaf){Q:Exit->St->Prop}{S:St}{g}
  (h0:gy [] S [(5,.c (.d (.int .i64 1))),(1,.c (.d (.rp d.enc 0)))] [])
  (hQ:∀T x,zH d.a_=tT->Q (.exit 4) ⟨T,r_ [],x⟩)
  (hR:∀T x,zH d.a_=oK->Abs.look T 2=.c (.d (.bool oK))->Q .ret ⟨T,r_ [],x⟩):mI Pg c TF Q g S:=by
 unfold zaf at hl;refine fM gm hp (λj:Nat=>1<=j/\(j<=lN d.a_\/j=1)/\∀i (h:i+1<lN d.a_),i+1<j->EG d.a_[i+1] d.a_[i]=oK) (λj=>[(5,.c (.d (.int .i64 j))),(1,.c (.d (.rp d.enc 0)))]) (λ_=>[]) (λj=>lN d.a_-j) 1 [] ⟨oC,oC,λi h hj=>by omega⟩ h0 λj ⟨g0,g1,g2⟩=>?_;unfold TF;have hd1:d.enc[2]?=sS (.sl oK 1 (encS d.a_)):=by rw[gT.l_];try rfl
 simp[hd1];apply gM<;>intro h
 .have hj:j<lN d.a_:=uM h;obtain⟨j,rfl⟩:∃k,j=k+1:=⟨j-1,oM⟩
  have hw:IntKind.i64.wrap (j:Int)=j:=wI;simp[aA hj,hw,aA (show j<lN d.a_ by omega)];refine⟨oD,gM (λh=>?_) (λh=>?_)⟩
  .exact hR _ _ (zvH hj (by unfold EG;exact h)) oC
  .refine fE (j+2) [] ⟨oM,oM,λi hi hij=>?_⟩ oM (by simp;rw[wI];omega);by_cases e:i=j
   .subst e;unfold EG;exact h
   .exact g2 i hi oM
 .have hj:lN d.a_<=j:=oI h;exact hQ _ _ (ztn λi hi=>g2 i hi oM)
theorem zKI (d:gT):h_ Pg 51 [.agg d.enc] (.one (.bool (rq d))):=by
 refine zE4 oC λo c hN hp=>?_;have hl:lN d.i_<=zaf/\lN d.a_<=zaf:=by
  have:=o.1;rw[gT.l_]at this;simp only[DV.ok,D.okL,D.ok,Qc,Qd,Jb,aa]at this;exact⟨this.2.1.1,this.2.2.1.1⟩
 unfold zsZ;have e0:d.enc[0]?=sS (.sl oK 1 (encI d.tags)):=by rw[gT.l_];try rfl
 have e2:d.enc[2]?=sS (.sl oK 1 (encS d.a_)):=by rw[gT.l_];try rfl
 have e3:d.enc[3]?=sS (.sl oK 5 (d.fields.map gT.enc)):=by rw[gT.l_];try rfl
 have e4:d.enc[4]?=sS (.sl oK 5 (d.fn.map gT.enc)):=by rw[gT.l_];try rfl
 by_cases k1:lN d.tags=6;rotate_left
 .simp[e0,show¬((lN d.tags:Int)=6) by omega,rq,k1]
 by_cases k2:lN d.a_=lN d.fields;rotate_left
 .simp[e0,e2,e3,k1,show¬((lN d.a_:Int)=(lN d.fields:Int)) by omega,rq,k2]
 have k2i:((lN d.a_:Int)=(lN d.fields:Int))=True:=eq_true oM;have k1i:(lN d.tags:Int)=6:=oM;have ht4:d.tags[4]?=sS (m? d 4):=by unfold m?;rw[getD,aA oM];try rfl
 have ht5:d.tags[5]?=sS (m? d 5):=by unfold m?;rw[getD,aA oM];try rfl
 have fin:(lN d.fn=0\/lN d.fn=2)->¬(m? d 4≠0/\0<lN d.a_\/m? d 5≠0/\0<lN d.fn)->rq d=(yZ [] d.i_&&zH d.a_):=λh h'=>by
  unfold rq;rw[bS ⟨k1,k2,h⟩,bS h'];simp
 have fon:¬(lN d.fn=0\/lN d.fn=2)\/(m? d 4≠0/\0<lN d.a_\/m? d 5≠0/\0<lN d.fn)->rq d=oK:=λh=>by
  unfold rq;rcases h with h|h
  .rw[bL (λx=>h x.2.2)];try rfl
  .rw[bL (p:=¬_) (λx=>x h)];simp
 have kn:lN d.a_=0\/0<lN d.a_:=oM;have kf:lN d.fn=0\/lN d.fn=2\/¬(lN d.fn=0\/lN d.fn=2):=oM;rcases kf with k3|k3|k3;rotate_right
 .have a1:¬(lN d.fn:Int)=0:=oM;have a2:¬(lN d.fn:Int)=2:=oM;have a3:d.fn≠[]:=λe=>a1 (by rw[e];rfl);simp[e0,e2,e3,e4,k1i,k2i,a2,a3,fon (.inl k3)]
 all_goals
  have k3':(lN d.fn:Int)=(lN d.fn:Int):=rfl;rw[k3]at k3';by_cases k4:m? d 4=0;rotate_left
  .rcases kn with kn|kn;rotate_left
   .simp[e0,e2,e3,e4,k1i,k2i,k3,ht4,ht5,k4,kn,show(0:Int)<lN d.a_ by omega,fon (.inr (.inl ⟨k4,kn⟩))]
   .by_cases k5:m? d 5=0
    all_goals
     first
      | (
        have hf:=fin oM oM;simp[e0,e2,e3,e4,k1i,k2i,k3,ht4,ht5,k4,kn,k5,show((0:Int)=lN d.fields)=True from eq_true oM];refine own0 hp d hl.1 oC (λT x H e1=>?_) (λT x H e2=>?_)
        .simp;refine Ku hp d hl.2 (by simp[e1]) (λT x H'=>?_) (λT x H' e2=>?_)
         .simp[hf,H,H']
         .simp[e2,hf,H,H']
        .simp[e2,hf,H])
      | (
        have hf:=fon (.inr (.inr ⟨k5,oM⟩))
        simp[e0,e2,e3,e4,k1i,k2i,k3,ht4,ht5,k4,kn,k5,show((0:Int)=lN d.fields)=True from eq_true oM,hf])
  .by_cases k5:m? d 5=0
   all_goals
    first
     | (
       have hf:=fin oM oM;simp[e0,e2,e3,e4,k1i,k2i,k3,ht4,ht5,k4,k5];refine own0 hp d hl.1 oC (λT x H e1=>?_) (λT x H e2=>?_)
       .simp;refine Ku hp d hl.2 (by simp[e1]) (λT x H'=>?_) (λT x H' e2=>?_)
        .simp[hf,H,H']
        .simp[e2,hf,H,H']
       .simp[e2,hf,H])
     | (
       have hf:=fon (.inr (.inr ⟨k5,oM⟩))
       simp[e0,e2,e3,e4,k1i,k2i,k3,ht4,ht5,k4,k5,hf])
mutual
def i?:gT->Bool
|.mk t n s f g=>rq (.mk t n s f g)&&(Kv f&&Ir g)
def Kv:List gT->Bool
|[]=>tT
|c::l=>(i? c&& !ja c r?)&&Kv l
def Ir:List gT->Bool
|a::b::_=>i? a&&(i? b&& !(ja a r?&&ja b r?))
|_=>tT
end
def zvI:∀l:List gT,Kv l=l.all λc=>i? c&& !ja c r?
|[]=>by simp[Kv]
|c::l=>by simp[Kv,zvI l]
def zA8(d:gT):i? d=(rq d&&((d.fields.all λc=>i? c&& !ja c r?)&&Ir d.fn)):=by
 cases d;simp only[i?,zvI,gT.fields,gT.fn]
def zHR(d:gT)(ih:∀x,x∈d.fields\/x∈d.fn->h_ Pg 29 [.agg x.enc] (.one (.bool (i? x)))):h_ Pg 29 [.agg d.enc] (.one (.bool (i? d))):=by
 have e:=zA8 d;refine zE3 oC λo c hN hp=>?_;have hl:lN d.fields<=zaf:=by
  have:=o.1;rw[gT.l_]at this;simp only[DV.ok,D.okL,D.ok,Qc,Qd,Jb,aa]at this;exact this.2.2.2.1.1
 unfold zaf at hl;have e3:d.enc[3]?=sS (.sl oK 5 (d.fields.map gT.enc)):=by rw[gT.l_];try rfl
 have e4:d.enc[4]?=sS (.sl oK 5 (d.fn.map gT.enc)):=by rw[gT.l_];try rfl
 have e5:∀x:gT,lN x.enc=5:=λx=>by rw[gT.l_];try rfl
 unfold zsY;simp[e5];apply gQ (zKI d);simp;apply gM<;>intro h
 .simp at h;rw[e,h];try rfl
 .simp at h;rw[h,Bool.true_and]at e;refine fO gm hp TB [4] (λj:Nat=>j<=lN d.fields/\((d.fields.drop j).all λc=>i? c&& !ja c r?)=d.fields.all λc=>i? c&& !ja c r?) (λj=>[.c (.d (.int .i64 j))]) (λ_=>[]) (λj=>lN d.fields-j) 0 [] oC (by simp[TB]) λj ⟨g1,g2⟩=>?_;unfold zoo TB;simp[e3,e5];apply gM<;>intro h
  .have hj:j<lN d.fields:=uM h;rw[aF hj,all_cons]at g2;simp[aA hj,e5];apply gQ (ih _ (.inl (aO hj)));simp[e3,aA hj,e5];apply gQ (EF _);simp;apply gM<;>intro h1
   .simp at h1;rw[h1]at g2;apply gM<;>intro h2
    .rw[h2]at g2;rw[e,<-g2];try rfl
    .simp at h2;rw[h2]at g2;exact fE (j+1) [] ⟨oM,uM g2⟩ oM (by simp;exact wI)
   .simp at h1;rw[h1]at g2;rw[e,<-g2];try rfl
  .have hj:j=lN d.fields:=oI h;have:(d.fields.all λc=>i? c&& !ja c r?)=tT:=by rw[<-g2,hj,aS];try rfl
   rw[this,Bool.true_and]at e;apply gM<;>intro h
   .have h0:d.fn=[]:=uM h;simp[e,h0,Ir]
   .have h0:d.fn≠[]:=uM h;have h2:lN d.fn=2:=by
     have hown:=‹rq d=tT›;simp only[rq,aG,aI]at hown;have:=hown.1.2.2;have:lN d.fn≠0:=λe=>h0 (aW.1 e);omega
    let⟨x,y,hxy⟩:∃x y,d.fn=[x,y]:=by
     match d.fn,h2 with
     |[x,y],_=>exact⟨x,y,rfl⟩
    rw[hxy]at e4;have hx:=ih x (.inr (by rw[hxy];simp));have hy:=ih y (.inr (by rw[hxy];simp));rw[hxy,Ir]at e;rw[hxy];simp[hxy];apply gQ hx;simp[hxy];apply gQ hy;simp[hxy];apply gQ (EF _);simp[hxy];apply gQ (EF _);simp;cases m1:i? x<;>cases m2:i? y<;>cases m3:ja x r?<;>cases m4:ja y r?<;>simp[e,m1,m2,m3,m4]
mutual
def Ns:∀(a:gT),h_ Pg 29 [.agg a.enc] (.one (.bool (i? a)))
|.mk t n s f g=>zHR _ λx hx=>hx.elim (λh=>UT f x h) (λh=>UT g x h)
def UT:∀(l:List gT) (x:gT),x∈l->h_ Pg 29 [.agg x.enc] (.one (.bool (i? x)))
|c::l,x,h=>by
 cases aM.1 h with
 |inl e=>rw[e];exact Ns c
 |inr e=>exact UT l x e
end
end Go.Gr
