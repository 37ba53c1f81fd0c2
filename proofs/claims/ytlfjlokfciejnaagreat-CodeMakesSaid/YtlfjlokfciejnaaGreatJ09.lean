/- Of ours. -/
import Derived.Test.YtlfjlokfciejnaaGreatJ08
set_option maxRecDepth 20000
set_option maxHeartbeats 4000000
set_option linter.unusedVariables false
set_option linter.unusedSectionVars false
set_option linter.unusedSimpArgs false
set_option linter.defProp false
set_option linter.unnecessarySimpa false
open List renaming length->lN
open Bool renaming true->tT,false->oK
open Option renaming some->sS,none->nN
namespace Go.Gr
open Go.Abs Go.Proofs List
def I6(ks:oL):f_.enc (.mk 7 (bs []) [] ks)=[.int .i64 7,.str (bs []),.sl oK 1 [],.sl oK 4 (ks.map f_.enc)]:=by rw[f_.l_];try rfl
mutual
def RL:∀t:f_,nD t t=tT
|.mk k n s l=>by rw[nD];simp[f_.d_,f_.name,f_.a_,f_.b_,zpI l]
def zpI:∀l:List f_,Bb l l=tT
|[]=>rfl
|t::l=>by rw[Bb,RL t,zpI l];try rfl
end
abbrev nQ(l:oL):A_:=.arr 4 ((l.map f_.enc).map (·.map .d))
abbrev Dn(all ks:oL):oV:=[wW,nQ all,.box [.d (.int .i64 7),.d (.str (bs [])),.d (.sl tT 1 []),.x_ 4 3 0 (lN ks)],nQ ks]
abbrev GK(all:oL)(tag:Nat):oZ:=[(7,.c (.d (.int .i64 tag))),(6,.c (.ptr 2 0)),(4,.c (.x_ 4 1 0 (lN all))),(2,.c (.ptr 0 0))]
def RN(tag:Int):∀(l:List f_) (_G:Bool) (ks:List f_),(T? tag l _G ks).1.2.length<=lN ks+lN l
|[],_G,ks=>by simp[T?]
| x::l,_G,ks=>by
 have h:(if _G=tT then ks else ks++[x]).length<=lN ks+1:=by split<;>simp
 rw[T?];by_cases h0:x.d_=0
 .rw[aC h0];simp
 rw[aB h0];by_cases h1:iJ x≠tag
 .rw[aC h1];have:=RN tag l _G ks;rw[length_cons];omega
 rw[aB h1];simp only;generalize (if _G=tT then ks else ks++[x])=k2 at*
 split
 .have:=RN tag l tT k2;rw[length_cons];omega
 .rw[length_cons];simp only;omega
def zJU{c:Ctx}(hp:c.pure)(all:oL)(_H:lN all<=1000000)(tag:Nat)(htag:tag<6)(ks:oL)(hks:lN ks<=10000000)(F0:(Bool × List f_) × Bool)(hF:T? tag all oK ks=F0){Q:Exit->St->Prop}{S:St}{g}{ms:oO}
  (h0:gy ms S ((9,.c (.d (.int .i64 0)))::(8,.c (.d (.bool oK)))::GK all tag) (Dn all ks))
  (hN:F0.2=oK->∀T M n,Abs.look T 2=.c (.ptr 0 0)->Abs.look T 3=.c (.d (.bool oK))->M 0=.box [.d (.int .i64 7),.d (.str (bs [])),.d (.sl tT 1 []),.x_ 4 3 0 F0.1.2.length]->M 3=nQ F0.1.2->Q .ret ⟨T,M,n⟩)
  (hQ:F0.2=tT->∀T,Abs.look T 7=.c (.d (.int .i64 tag))->Abs.look T 6=.c (.ptr 2 0)->Abs.look T 4=.c (.x_ 4 1 0 (lN all))->Abs.look T 2=.c (.ptr 0 0)->Q (.exit 4) ⟨T,r_ (Dn all F0.1.2),4⟩):mI Pg c QT Q g S:=by
 refine fM gm hp (λx:Nat × Bool × List f_=>x.1<=lN all/\lN x.2.2<=lN ks+x.1/\(x.2.1=tT->x.2.2≠[])/\T? tag (all.drop x.1) x.2.1 x.2.2=F0) (λx=>(9,.c (.d (.int .i64 x.1)))::(8,.c (.d (.bool x.2.1)))::GK all tag) (λx=>Dn all x.2.2) (λx=>lN all-x.1) (0,oK,ks) ms ⟨oC,oC,oC,uM hF⟩ h0 λ⟨i,_G,l⟩ ⟨h1,h2,h3,h4⟩=>?_;unfold QT;simp only at h1 h2 h3 h4;simp;apply gM<;>intro h
 .have hi:i<lN all:=uM h;rw[aF hi,T?]at h4;let⟨x,hx⟩:=oJ (all[i]);have hg:all[i]?=sS x:=by rw[aA hi,hx]
  rw[hx]at h4;simp[hi,hx,hg];by_cases k0:x.d_=0
  .rw[aC k0]at h4;subst h4;simp[k0];exact hN rfl _ _ _ oC oC oC oC
  rw[aB k0]at h4;simp[k0,hi,hx,hg];refine gQ (Mm x) ?_;by_cases kt:iJ x=tag;rotate_left
  .rw[aC kt]at h4;simp[kt];refine fE (i+1,_G,l) [0,1,2,3] ⟨qM,qM,h3,h4⟩ qM ?_;simp;exact wI
  rw[aB (λz=>z kt)]at h4;cases _G with
  |false=>
   simp only[bD,if_false,getLastD_concat]at h4;have hw:IntKind.i64.wrap ((lN l:Int)+1-1)=(lN l:Int):=by rw[wI];omega
   have z:take (lN l) (List.map ((λx=>List.map AC.d x)∘f_.enc) l)=List.map ((λx=>List.map AC.d x)∘f_.enc) l:=yQ l;have hwl:IntKind.i64.wrap (lN l:Int)=(lN l:Int):=wI;have g:(List.map ((λx=>List.map AC.d x)∘f_.enc) l++[List.map AC.d x.enc])[lN l]?=sS (List.map AC.d x.enc):=oC;simp[kt,hi,hx,hg,hwl,z,g];refine⟨oM,oD,oM,?_⟩;refine gQ (I5 _ _) ?_;have hs:=RL x;rw[aC hs]at h4;simp[hs];refine oG ?_;refine fE (i+1,tT,l++[x]) [0,1,2,4] ⟨qM,by simp;omega,oC,h4⟩ qM ?_;simp;exact wI
  | true=>
   have _A:=h3 rfl;simp only[if_true]at h4;have hlp:0<lN l:=List.length_pos_iff.2 _A;have hw:IntKind.i64.wrap ((lN l:Int)-1)=((lN l-1:Nat):Int):=by rw[wI];omega
   have hlast:l.getLastD C_=l[lN l-1]:=by
    rw[getLastD_eq_getLast?,getLast?_eq_getElem?,aA oM];try rfl
   rw[hlast]at h4;have _k:lN l-1<lN l:=oM;simp[kt,hi,hx,hg,hw,aA _k,_k];refine gQ (I5 _ _) ?_;by_cases hs:nD x l[lN l-1]=tT
   .rw[aC hs]at h4;simp[hs];refine oG ?_;refine fE (i+1,tT,l) [0,1,2,3] ⟨qM,qM,λ_=>_A,h4⟩ qM ?_;simp;exact wI
   .rw[aB hs]at h4;subst h4;simp[hs];refine oG ?_;exact hN rfl _ _ _ oC oC oC oC
 .have hi:i=lN all:=oI h;subst hi;rw[aS,T?]at h4;subst h4;exact hQ rfl _ oC oC oC oC
def Ep(i:Nat):oW:=[0,1,2,3,4,5].drop i
def zwr{i:Nat}(h:i<6):Ep i=(i:Int)::Ep (i+1):=by
 have:∀i:Fin 6,Ep i.val=((i.val:Nat):Int)::Ep (i.val+1):=by decide
 exact this ⟨i,h⟩
def zFY(b_:oL)(hk:(b_.flatMap Y?).length<=1000000)(hkl:lN b_<=1000000):h_ Pg 187 [.one (.sl oK 4 (b_.map f_.enc))] (.a? [.agg (Ce b_).1.enc,.one (.bool (Ce b_).2)]):=by
 refine zy7 oC λo c hN hp=>?_;let⟨R,hR⟩:=oJ (Ce b_);rw[hR];unfold Ce at hR;simp only at hR;let⟨all,hal⟩:=oJ (b_.flatMap Y?);rw[hal]at hR hk;unfold Yf;simp;refine fT [.t 4] ?_;simp;refine fM gm hp (λx:Nat × List f_=>x.1<=lN b_/\x.2++(b_.drop x.1).flatMap Y?=all) (λx=>[(5,.c (.d (.int .i64 x.1))),(4,.c (.x_ 4 1 0 (lN x.2))),(2,.c (.ptr 0 0)),(0,.c (.d (.sl oK 4 (b_.map f_.enc))))]) (λx=>[wW,nQ x.2]) (λx=>lN b_-x.1) (0,[]) [0,1] ⟨oC,uM hal⟩ oC λ⟨j,l⟩ ⟨h1,h2⟩=>?_;unfold Yd;simp only at h1 h2;simp;apply gM<;>intro h
 .have hj:j<lN b_:=uM h;let⟨x,hx⟩:=oJ (b_[j]);have hg:b_[j]?=sS x:=by rw[aA hj,hx]
  rw[aF hj,hx,flatMap_cons,<-dC]at h2;have hll:=dM length h2;rw[aV,aV]at hll;by_cases k7:x.d_=7
  .have hm:Y? x=x.b_:=by unfold Y?;rw[aC k7]
   rw[hm]at h2 hll;simp[hj,hx,hg,k7];refine jV ?_;refine fE (j+1,l++x.b_) [0,2] ⟨qM,h2⟩ qM ?_;simp;exact⟨wI,yQ l⟩
  .have hm:Y? x=[x]:=by unfold Y?;rw[aB k7]
   rw[hm]at h2 hll;simp only[length_singleton]at hll;simp[hj,hx,hg,k7];refine jV ?_;refine fE (j+1,l++[x]) [0,2] ⟨qM,h2⟩ qM ?_;simp;exact⟨wI,yQ l⟩
 .have hj:j=lN b_:=oI h;subst hj;rw[aS,flatMap_nil,bi]at h2;subst h2;simp;refine fT [.c 2 3] ?_;simp;refine fM gm hp (λx:Nat × List f_=>x.1<=6/\lN x.2<=x.1*lN l/\tO l (Ep x.1) x.2=tO l [0,1,2,3,4,5] []) (λx=>GK l x.1) (λx=>Dn l x.2) (λx=>6-x.1) (0,[]) [0,1,2,3] ⟨oC,oC,rfl⟩ oC λ⟨t,ks⟩ ⟨i1,i2,i3⟩=>?_;unfold Ye;simp only at i1 i2 i3;simp;have hmul:t*lN l<=6*1000000:=Nat.mul_le_mul i1 hk;have htl:=RN t l oK ks;apply gM<;>intro h
  .have ht:t<6:=oI h;rw[zwr ht,tO]at i3;refine zJU hp l hk t ht ks oM _ rfl (ms:=[0,1,2,3]) oC (λhf T M n t2 t3 m0 m3=>?_) (λhf T t7 t6 t4 t2=>?_)
   .rw[aB (by rw[hf];simp)]at i3;rw[<-i3]at hR;simp at hR;subst hR;simp[t2,t3,m0,m3,I6];exact aD oC
   .rw[aC hf]at i3;simp[t7];refine fE (t+1,(T? t l oK ks).1.2) [0,1,2,3] ⟨qM,by simp only;rw[bF];omega,i3⟩ qM ?_;simp[t7,t6,t4,t2];exact wI
  .have ht:t=6:=oI h;subst ht;rw[show Ep 6=[]from rfl,tO]at i3;rw[<-i3]at hR;simp only[if_true]at hR;have z4:take (lN ks) (List.map f_.enc ks)=List.map f_.enc ks:=aD oC
   match ks,i2,hR,z4 with
   |[],i2,hR,z4=>
    simp at hR;subst hR;simp;exact⟨oD,by rw[I6];rfl⟩
   |[x],i2,hR,z4=>
    simp at hR;subst hR;simp;rw[f_.l_];try rfl
   |x::y::l2,i2,hR,z4=>
    simp at hR;subst hR;have h1:¬((lN l2:Int)+1+1=1):=oM;have h2:¬(lN l2+1+1=1):=oM;have h3:(0:Int)<(lN l2:Int)+1+1:=oM;simp[h1,h2,h3];exact⟨oD,by rw[I6,aD oC];rfl⟩
mutual
def uI:f_->Prop
|.mk _ _ _ l=>lN l<=200/\Ap l
def Ap:List f_->Prop
|[]=>True
|t::l=>uI t/\Ap l
end
mutual
def Jz:∀(t:f_) (m:Int),m<=201->mR t m<m->uI t
|.mk k n s l,m,h1,h2=>by
 rw[mR]at h2;have:=zuQ l m 1 h1 oM h2;rw[uI];exact⟨oM,this.2⟩
def zuQ:∀(l:List f_) (m n:Int),m<=201->1<=n->rV l m n<m->n+lN l<=rV l m n/\Ap l
|[],m,n,_,_,h=>by rw[rV]at*;exact⟨oC,trivial⟩
| t::l,m,n,h1,h2,h3=>by
 have hle:=Mk t (m-n);rw[rV]at h3⊢;split
 next q=>
  rw[aC q]at h3;have i:=zuQ l m (n+mR t (m-n)) h1 oM h3;have hle2:=Ml l m (n+mR t (m-n)) oM;rw[length_cons];exact⟨oM,Jz t (m-n) oM oM,i.2⟩
 next q=>
  rw[aB q]at h3;omega
end
def zD1:∀l:List f_,Ap l↔∀x,x∈l->uI x
|[]=>by simp[Ap]
|t::l=>by simp[Ap,zD1 l]
def RO(tag:Int):∀(l:List f_) (_G:Bool) (ks:List f_),(T? tag l _G ks).1.2.length<=lN ks+(if _G=tT then 0 else 1)
|[],_G,ks=>by simp[T?]
| x::l,_G,ks=>by
 have h:(if _G=tT then ks else ks++[x]).length<=lN ks+(if _G=tT then 0 else 1):=by cases _G<;>simp
 rw[T?];by_cases h0:x.d_=0
 .rw[aC h0];simp
 rw[aB h0];by_cases h1:iJ x≠tag
 .rw[aC h1];exact RO tag l _G ks
 rw[aB h1];simp only;generalize (if _G=tT then ks else ks++[x])=k2 at*
 split
 .have:=RO tag l tT k2;simp only[if_true]at this;omega
 .exact h
def RP(tag:Int):∀(l:List f_) (_G:Bool) (ks:List f_) (y:f_),y∈(T? tag l _G ks).1.2->y∈ks\/(y∈l/\iJ y=tag)
|[],_G,ks,y,h=>by simp[T?]at h;exact .inl h
| x::l,_G,ks,y,h=>by
 have h2:∀z,z∈(if _G=tT then ks else ks++[x])->z∈ks\/z=x:=λz hz=>by cases _G<;>simp at hz<;>simp[hz]
 rw[T?]at h;by_cases h0:x.d_=0
 .rw[aC h0]at h;exact .inl h
 rw[aB h0]at h;by_cases h1:iJ x≠tag
 .rw[aC h1]at h;rcases RP tag l _G ks y h with q|⟨q,r⟩
  .exact .inl q
  .exact .inr ⟨by simp[q],r⟩
 rw[aB h1]at h;have hx:iJ x=tag:=bH h1;simp only at h;generalize (if _G=tT then ks else ks++[x])=k2 at*
 have fin:y∈k2->y∈ks\/(y∈x::l/\iJ y=tag):=λhy=>by
  rcases h2 y hy with q|rfl
  .exact .inl q
  .exact .inr ⟨oC,hx⟩
 split at h
 .rcases RP tag l tT k2 y h with q|⟨q,r⟩
  .exact fin q
  .exact .inr ⟨by simp[q],r⟩
 .exact fin h
def RQ(all:List f_):∀(l:List Int) (ks:List f_),(tO all l ks).1.length<=lN ks+lN l
|[],ks=>by simp[tO]
| t::l,ks=>by
 have h1:=RO t all oK ks;simp only[bD,if_false]at h1;rw[tO,length_cons];split
 .have:=RQ all l (T? t all oK ks).1.2;omega
 .simp only;omega
def Mq(all:List f_):∀(l:List Int) (ks:List f_) (y:f_),y∈(tO all l ks).1->y∈ks\/(y∈all/\iJ y∈l)
|[],ks,y,h=>by simp[tO]at h;exact .inl h
| t::l,ks,y,h=>by
 rw[tO]at h;have fin:y∈(T? t all oK ks).1.2->y∈ks\/(y∈all/\iJ y∈t::l):=λhy=>by
  rcases RP t all oK ks y hy with q|⟨q,r⟩
  .exact .inl q
  .exact .inr ⟨q,by simp[r]⟩
 split at h
 .rcases Mq all l _ y h with q|⟨q,r⟩
  .exact fin q
  .exact .inr ⟨q,by simp[r]⟩
 .exact fin h
def zD2(t:f_):(Y? (kQ t).1).length<=6:=by
 have one:∀x:f_,x.d_≠7->(Y? x).length<=6:=λx h=>by unfold Y?;rw[aB h];simp
 cases t with
 |mk k n s l=>
 rw[kQ];split
 .split
  .unfold nO;split
   .apply one _;unfold Bc;split<;>simp[f_.d_]
   split
   .exact one _ (by simp[f_.d_])
   .unfold Ce;have hl:=RQ ((jP l).1.flatMap Y?) [0,1,2,3,4,5] [];have hm:=Mq ((jP l).1.flatMap Y?) [0,1,2,3,4,5] [];simp only;generalize tO ((jP l).1.flatMap Y?) [0,1,2,3,4,5] []=r at*
    have seven:∀l:oL,lN l<=6->(Y? (.mk 7 (bs []) [] l)).length<=6:=λl h=>by unfold Y?;exact h
    split
    .split
     next x e=>
      have:=hm x (by rw[e];simp);refine one _ λh7=>?_;have h7:x.d_=7:=h7;have hb:iJ x= -1:=by unfold iJ;rw[aC oM]
      rw[hb]at this;simp at this
     next e=>
      exact seven _ (uM hl)
    .exact seven _ (uM hl)
  .exact one _ (by simp[C_,f_.d_])
 .split
  .apply one _;show k≠7;omega
  .exact one _ (by simp[C_,f_.d_])
def zuR:∀l:List f_,(jP l).1.length<=lN l
|[]=>by simp[jP]
|t::l=>by
 have:=zuR l;rw[jP];split<;>simp;omega
def zr3:∀l:List f_,((jP l).1.flatMap Y?).length<=6*lN l
|[]=>by simp[jP]
|t::l=>by
 have h1:=zr3 l;have h2:=zD2 t;rw[jP];split
 .rw[flatMap_cons,aV,length_cons];omega
 .simp
def zGy(t:f_):kQ t=if 5<=t.d_/\t.d_<=7 then(if(jP t.b_).2=tT then nO t.d_ t.a_ (jP t.b_).1 else(C_,oK))else if 0<=t.d_/\t.d_<=4 then(bT t.d_,tT)else(C_,oK):=by
 cases t;rw[kQ];try rfl
def rZ(a:oL)(l:oL):oL × Bool:=if(jP l).2=tT then(a++(jP l).1,tT)else([],oK)
def zD3(a:oL)(t:f_)(l:oL):rZ a (t::l)=if(kQ t).2=tT then rZ (a++[(kQ t).1]) l else([],oK):=by
 unfold rZ;rw[jP];by_cases h:(kQ t).2=tT
 .rw[aC h,aC h];by_cases h2:(jP l).2=tT
  .simp[h2]
  .simp[h2]
 .rw[aB h,aB h];simp
@[simp] theorem f_.er_map(t:f_):t.enc.map D.er=t.enc:=by rw[f_.l_];try rfl
def yR(k:Int):(bT k).enc=[.int .i64 k,.str (bs []),.sl oK 1 [],.sl oK 4 []]:=by rw[f_.l_];try rfl
theorem mG:C_.enc=[.int .i64 0,.str (bs []),.sl oK 1 [],.sl oK 4 []]:=rfl
abbrev KC(t:f_)(j n:Nat):oZ:=[(5,.c (.d (.int .i64 j))),(4,.c (.x_ 4 1 0 n)),(2,.c (.ptr 0 0)),(1,.c (.d (.rp t.enc 0)))]
theorem RU{c:Ctx}(hp:c.pure)(t:f_)(hl:lN t.b_<=200)(ih:∀e,e∈t.b_->h_ Pg 152 [.agg e.enc] (.a? [.agg (kQ e).1.enc,.one (.bool (kQ e).2)])){Q:Exit->St->Prop}{S:St}{g}{ms:oO}
  (h0:gy ms S (KC t 0 0) [wW,nQ []])
  (hN:(jP t.b_).2=oK->∀T M n,Abs.look T 2=.c (.ptr 0 0)->Abs.look T 3=.c (.d (.bool oK))->M 0=wW->Q .ret ⟨T,M,n⟩)
  (hQ:(jP t.b_).2=tT->∀T,Abs.look T 4=.c (.x_ 4 1 0 (jP t.b_).1.length)->Abs.look T 2=.c (.ptr 0 0)->Abs.look T 1=.c (.d (.rp t.enc 0))->Q (.exit 1) ⟨T,r_ [wW,nQ (jP t.b_).1],2⟩):mI Pg c QR Q g S:=by
 have hA:rZ [] t.b_=if(jP t.b_).2=tT then((jP t.b_).1,tT)else([],oK):=rfl;have hN:(rZ [] t.b_).2=oK->∀T M n,Abs.look T 2=.c (.ptr 0 0)->Abs.look T 3=.c (.d (.bool oK))->M 0=wW->Q .ret ⟨T,M,n⟩:=λh=>hN (by
  rw[hA]at h;cases e:(jP t.b_).2 with
  |false=>rfl
  |true=>rw[aC e]at h;cases h)
 have hQ:(rZ [] t.b_).2=tT->∀T,Abs.look T 4=.c (.x_ 4 1 0 (rZ [] t.b_).1.length)->Abs.look T 2=.c (.ptr 0 0)->Abs.look T 1=.c (.d (.rp t.enc 0))->Q (.exit 1) ⟨T,r_ [wW,nQ (rZ [] t.b_).1],2⟩:=λh=>by
  rw[hA]at h⊢;cases e:(jP t.b_).2 with
  |false=>rw[e]at h;cases h
  |true=>rw[aC rfl];exact hQ e
 let⟨F0,hF⟩:=oJ (rZ [] t.b_);rw[hF]at hN hQ;refine fM gm hp (λx:Nat × List f_=>x.1<=lN t.b_/\lN x.2<=x.1/\rZ x.2 (t.b_.drop x.1)=F0) (λx=>KC t x.1 (lN x.2)) (λx=>[wW,nQ x.2]) (λx=>lN t.b_-x.1) (0,[]) ms ⟨oC,oC,uM hF⟩ h0 λ⟨j,a⟩ ⟨h1,h2,h3⟩=>?_;unfold QR;simp only at h1 h2 h3;simp;apply gM<;>intro h
 .have hj:j<lN t.b_:=uM h;rw[aF hj,zD3]at h3;let⟨x,hx⟩:=oJ (t.b_[j]);have hm:=aO hj;rw[hx]at h3 hm;simp[hj,hx];refine gQ (ih x hm) ?_;simp;by_cases q:(kQ x).2=tT
  .rw[aC q]at h3;simp[q];refine jV ?_;refine fE (j+1,a++[(kQ x).1]) [0,3] ⟨qM,by simp;omega,h3⟩ qM ?_;simp;exact⟨wI,yQ a⟩
  .rw[aB q]at h3;subst h3;simp[q];exact hN rfl _ _ _ oC oC oC
 .have hj:j=lN t.b_:=oI h;subst hj;rw[aS]at h3;have e:rZ a []=(a,tT):=by unfold rZ;simp[jP]
  rw[e]at h3;subst h3;exact hQ rfl _ oC oC oC
def zGz(t:f_)(hl:lN t.b_<=200)(ih:∀e,e∈t.b_->h_ Pg 152 [.agg e.enc] (.a? [.agg (kQ e).1.enc,.one (.bool (kQ e).2)])):
  h_ Pg 152 [.agg t.enc] (.a? [.agg (kQ t).1.enc,.one (.bool (kQ t).2)]):=by
 refine zBo oC λo c hN hp=>?_;let⟨R,hR⟩:=oJ (kQ t);rw[hR];rw[zGy]at hR;unfold Ya;by_cases k1:0<=t.d_/\t.d_<=4
 .rw[aB oM,aC k1]at hR;subst hR;have hc:t.d_=0\/t.d_=1\/t.d_=2\/t.d_=3\/t.d_=4:=oM;rcases hc with k|k|k|k|k<;>simp[k,yR]
 by_cases k2:5<=t.d_/\t.d_<=7;rotate_left
 .rw[aB k2,aB k1]at hR;subst hR;have a0:¬t.d_=0:=oM;have a1:¬t.d_=1:=oM;have a2:¬t.d_=2:=oM;have a3:¬t.d_=3:=oM;have a4:¬t.d_=4:=oM;have a5:¬t.d_=5:=oM;have a6:¬t.d_=6:=oM;have a7:¬t.d_=7:=oM;simp[a0,a1,a2,a3,a4,a5,a6,a7,mG]
 rw[aC k2]at hR;have hnl:=zuR t.b_;have hnm:=zr3 t.b_;have hk:∀K:Int,t.d_=K->(if(jP t.b_).2=tT then nO K t.a_ (jP t.b_).1 else(C_,oK))=R:=λK e=>by rw[<-e];exact hR
 have a0:¬t.d_=0:=oM;have a1:¬t.d_=1:=oM;have a2:¬t.d_=2:=oM;have a3:¬t.d_=3:=oM;have a4:¬t.d_=4:=oM;have hc:t.d_=5\/t.d_=6\/t.d_=7:=oM;rcases hc with k|k|k
 .have hR:=hk 5 k;simp[k];apply fT [.t 4];simp;refine RU hp t hl ih (ms:=[0,1]) oC (λhf T M n t2 t3 m0=>?_) (λhf T t4 t2 t1=>?_)
  .rw[aB (by rw[hf];simp)]at hR;subst hR;simp[t2,t3,m0,mG]
  .rw[aC hf]at hR;generalize (jP t.b_).1=l at*
   simp[t1,k];apply fQ [1];have z:take (lN l) (List.map f_.enc l)=List.map f_.enc l:=aD oC;simp[iE,t4,t1,yQ,z];apply gQ (zEk _ _);rw[show Bc t.a_ l=R by rw[<-hR];rfl];simp[iE,t2]
 .have hR:=hk 6 k;simp[k];apply fT [.t 4];simp;refine RU hp t hl ih (ms:=[0,1]) oC (λhf T M n t2 t3 m0=>?_) (λhf T t4 t2 t1=>?_)
  .rw[aB (by rw[hf];simp)]at hR;subst hR;simp[t2,t3,m0,mG]
  .rw[aC hf]at hR;generalize (jP t.b_).1=l at*
   have hR:(f_.mk 6 (bs []) [] l,decide (lN l=2))=R:=by rw[<-hR];try rfl
   subst hR;have z:take (lN l) (List.map f_.enc l)=List.map f_.enc l:=aD oC;have hd:decide ((lN l:Int)=2)=decide (lN l=2):=by
    by_cases h:lN l=2
    .simp[h]
    .have h':¬(lN l:Int)=2:=oM;simp[h,h']
   simp[t1,k,t4,t2];exact⟨by rw[z,f_.l_];rfl,oM⟩
 .have hR:=hk 7 k;simp[k];apply fT [.t 4];simp;refine RU hp t hl ih (ms:=[0,1]) oC (λhf T M n t2 t3 m0=>?_) (λhf T t4 t2 t1=>?_)
  .rw[aB (by rw[hf];simp)]at hR;subst hR;simp[t2,t3,m0,mG]
  .rw[aC hf]at hR;have hu:=zFY (jP t.b_).1 oM oM;generalize (jP t.b_).1=l at*
   have z:take (lN l) (List.map f_.enc l)=List.map f_.enc l:=aD oC;simp[t1,k];apply fQ [1];simp[iE,t4,t1,yQ,z];apply gQ hu;rw[show Ce l=R by rw[<-hR];rfl];simp[iE,t2]
mutual
def zAq:∀t:f_,uI t->h_ Pg 152 [.agg t.enc] (.a? [.agg (kQ t).1.enc,.one (.bool (kQ t).2)])
|.mk k n s l,h=>by
 rw[uI]at h;exact zGz (.mk k n s l) h.1 (λe he=>zxe l h.2 e he)
def zxe:∀l:List f_,Ap l->∀e,e∈l->h_ Pg 152 [.agg e.enc] (.a? [.agg (kQ e).1.enc,.one (.bool (kQ e).2)])
|[],_,e,h=>by cases h
|d::l,hf,e,h=>by
 rw[Ap]at hf;cases h with
 |head=>exact zAq d hf.1
 |tail _ h=>exact zxe l hf.2 e h
end
def GL(t:f_):h_ Pg 94 [.agg t.enc] (.a? [.agg (kz t).1.enc,.one (.int .i64 (kz t).2)]):=by
 refine zBn oC λo c hN hp=>?_;let⟨R,hR⟩:=oJ (kz t);rw[hR];unfold kz at hR;simp[Y9];apply gQ (RF t);by_cases h1:16<nC 17 t
 .rw[aC (.inl h1)]at hR;subst hR;simp[h1,mG]
 simp[h1];apply gQ (RB t);by_cases h2:200<mR t 201
 .rw[aC (.inr h2)]at hR;subst hR;simp[h2,mG]
 rw[aB oM]at hR;have hf:=Jz t 201 oM oM;simp[h2];apply gQ (zAq t hf);by_cases h3:(kQ t).2=tT
 .rw[aC h3]at hR;subst hR;simp[h3]
 .rw[aB h3]at hR;subst hR;simp[h3,mG]
def Bi(t:f_):h_ Pg 60 [.agg t.enc] (.one (.bool (H_ t))):=by
 refine zwB oC λo c hN hp=>?_;simp[Yj,H_];apply gQ (GL t);generalize kz t=R;simp;apply gQ (I5 _ _);by_cases h:R.2=0
 .simp[h]
 .simp[h]
variable {t:f_}
mutual
def zuL:∀(a b:f_),nD a b=tT↔a=b
|.mk k n s l,.mk k' n' s' l'=>by
 rw[nD,aG,aG,aG,aI,aI,aI,zrS,f_.mk.injEq];exact Iff.rfl
def zrS:∀(a b:List f_),Bb a b=tT↔a=b
|[],[]=>by simp[Bb]
|[],_::_=>by simp[Bb]
|_::_,[]=>by simp[Bb]
|a::l,b::k=>by
 simp only[Bb,aG,eQ];rw[zuL a b,zrS l k]
end
mutual
def iU:f_->Prop
|.mk k n s l=>n=bs []/\nR l/\((0<=k/\k<=4/\s=[]/\l=[])\/(k=5/\lN s=lN l/\lN s<=16/\∀x,x∈s->mP x=tT)\/(k=6/\s=[]/\lN l=2)\/(k=7/\s=[]/\lN l<=6/\∀x,x∈l->1<=x.d_/\x.d_<=6))
def nR:List f_->Prop
|[]=>True
|t::l=>iU t/\nR l
end
def GM:∀l:List f_,nR l↔∀x,x∈l->iU x
|[]=>by simp[nR]
|t::l=>by simp[nR,GM l]
def rP(t:f_):iU t↔t.name=bs []/\(∀x,x∈t.b_->iU x)/\((0<=t.d_/\t.d_<=4/\t.a_=[]/\t.b_=[])\/(t.d_=5/\lN t.a_=lN t.b_/\lN t.a_<=16/\∀x,x∈t.a_->mP x=tT)\/(t.d_=6/\t.a_=[]/\lN t.b_=2)\/(t.d_=7/\t.a_=[]/\lN t.b_<=6/\∀x,x∈t.b_->1<=x.d_/\x.d_<=6)):=by
 cases t;rw[iU,GM];try rfl
def yS(k:Int)(h0:0<=k)(h4:k<=4):iU (bT k):=(rP _).2 ⟨rfl,λx h=>(by cases h),.inl ⟨h0,h4,rfl,rfl⟩⟩
def uf:iU C_:=yS 0 oM oM
def RV:∀(ss:List fD) (ts:List f_) (ns:List fD) (ks:List f_),lN ss=lN ts->lN ns=lN ks->(∀x,x∈ns->mP x=tT)->(iy ss ts ns ks).2=tT->
 (iy ss ts ns ks).1.1.length=(iy ss ts ns ks).1.2.length/\(iy ss ts ns ks).1.1.length=lN ns+lN ss/\(∀x,x∈(iy ss ts ns ks).1.1->mP x=tT)/\∀x,x∈(iy ss ts ns ks).1.2->x∈ks\/x∈ts
|[],ts,ns,ks,h0,h1,h2,h=>by
 cases ts with
 |nil=>rw[iy];exact⟨h1,rfl,h2,λx hx=>.inl hx⟩;all_goals (intros;contradiction)
 |cons _ _=>simp at h0
|s::ss,[],ns,ks,h0,h1,h2,h=>by simp at h0
| s ::ss,t::ts,ns,ks,h0,h1,h2,h=>by
 have hp:=RH s ns;rw[iy]at h⊢;by_cases q:mP s=oK\/ns[U? s ns]?=sS s
 .rw[aC q]at h;cases h
 rw[aB q]at h⊢;have hs:mP s=tT:=by
  cases e:mP s with
  |true=>rfl
  |false=>exact absurd (.inl e) q
 have i:=RV ss ts (ns.take (U? s ns)++s::ns.drop (U? s ns)) (ks.take (U? s ns)++t::ks.drop (U? s ns)) (uM h0) (by simp;omega) (λx hx=>by
  rcases aL.1 hx with hx|hx
  .exact h2 x (dH hx)
  .rcases aM.1 hx with rfl|hx
   .exact hs
   .exact h2 x (di hx)) h
 refine⟨i.1,?_,i.2.2.1,λx hx=>?_⟩
 .rw[i.2.1];simp;omega
 .rcases i.2.2.2 x hx with hx|hx
  .rcases aL.1 hx with hx|hx
   .exact .inl (dH hx)
   .rcases aM.1 hx with rfl|hx
    .exact .inr oC
    .exact .inl (di hx)
  .exact .inr (by simp[hx])
def zII{l:oL}(h:∀x,x∈l->iU x):∀y,y∈l.flatMap Y?->iU y:=λy hy=>by
 let⟨x,hx,hy⟩:=List.mem_flatMap.1 hy;unfold Y? at hy;split at hy
 .exact((rP x).1 (h x hx)).2.1 y hy
 .simp at hy;subst hy;exact h y hx
def zGo{y:f_}(h:iJ y∈([0,1,2,3,4,5]:oW)):1<=y.d_/\y.d_<=6:=by
 unfold iJ at h;split at h
 .simp at h
 .omega
def zJ4(k:Int)(s:oN)(l:oL)(hl:∀x,x∈l->iU x)(hk:5<=k/\k<=7)(h:(nO k s l).2=tT):iU (nO k s l).1:=by
 unfold nO at h⊢;by_cases k5:k=5
 .rw[aC k5]at h⊢;unfold Bc at h⊢;by_cases q:lN s≠lN l\/16<lN s
  .rw[aC q]at h;cases h
  rw[aB q]at h⊢;have i:=RV s l [] [] oM rfl oC h;refine(rP _).2 ⟨rfl,λx hx=>?_,.inr (.inl ⟨rfl,i.1,?_,i.2.2.1⟩)⟩
  .rcases i.2.2.2 x hx with hx|hx
   .cases hx
   .exact hl x hx
  .show(iy s l [] []).1.1.length<=16;rw[i.2.1];simp;omega
 rw[aB k5]at h⊢;by_cases k6:k=6
 .rw[aC k6]at h⊢;simp only[aI]at h;exact(rP _).2 ⟨rfl,hl,.inr (.inr (.inl ⟨rfl,rfl,h⟩))⟩
 rw[aB k6]at h⊢;unfold Ce at h⊢;have hm:=Mq (l.flatMap Y?) [0,1,2,3,4,5] [];have hlen:=RQ (l.flatMap Y?) [0,1,2,3,4,5] [];simp only at h⊢;generalize tO (l.flatMap Y?) [0,1,2,3,4,5] []=r at*
 have hw:∀y,y∈r.1->iU y/\1<=y.d_/\y.d_<=6:=λy hy=>by
  rcases hm y hy with q|⟨q1,q2⟩
  .cases q
  .exact⟨zII hl y q1,zGo q2⟩
 have seven:∀L:oL,lN L<=6->(∀y,y∈L->iU y/\1<=y.d_/\y.d_<=6)->iU (.mk 7 (bs []) [] L):=λL hn hL=>(rP _).2 ⟨rfl,λx hx=>(hL x hx).1,.inr (.inr (.inr ⟨rfl,rfl,hn,λx hx=>(hL x hx).2⟩))⟩;by_cases q:r.2=tT
 .rw[aC q]at h⊢;split
  next x e=>
   exact(hw x (by rw[e];simp)).1
  .exact seven _ (uM hlen) hw
 .rw[aB q]at h;cases h
mutual
def RX:∀t:f_,(kQ t).2=tT->iU (kQ t).1
| .mk k n s l,h=>by
 rw[kQ]at h⊢;by_cases q:5<=k/\k<=7
 .rw[aC q]at h⊢;by_cases q2:(jP l).2=tT
  .rw[aC q2]at h⊢;exact zJ4 k s _ (zw7 l q2) q h
  .rw[aB q2]at h;cases h
 .rw[aB q]at h⊢;by_cases q2:0<=k/\k<=4
  .rw[aC q2];exact yS k q2.1 q2.2
  .rw[aB q2]at h;cases h
def zw7:∀l:List f_,(jP l).2=tT->∀x,x∈(jP l).1->iU x
|[],_,x,hx=>by rw[jP]at hx;cases hx
| t::l,h,x,hx=>by
 rw[jP]at h hx;by_cases q:(kQ t).2=tT
 .rw[aC q]at h hx;rcases aM.1 hx with rfl|hx
  .exact RX t q
  .exact zw7 l h x hx
 .rw[aB q]at h;cases h
end
def KD(t:f_):iU (kz t).1:=by
 unfold kz;split
 .exact uf
 split
 next h=>exact RX t h
 .exact uf
def KE(h:(kz t).2=0):(kQ t).2=tT/\mR t 201<=200/\nC 17 t<=16/\(kz t).1=(kQ t).1:=by
 unfold kz at h⊢;by_cases q:16<nC 17 t\/200<mR t 201
 .rw[aC q]at h;cases h
 rw[aB q]at h⊢;by_cases q2:(kQ t).2=tT
 .rw[aC q2];exact⟨q2,oM,oM,rfl⟩
 .rw[aB q2]at h;cases h
def KF:H_ t=tT↔(kz t).2=0/\(kz t).1=t:=by
 unfold H_;rw[aG,aI,zuL]
def Cn(h:H_ t=tT):iU t:=by
 have h:=KF.1 h;rw[<-h.2];exact KD t
def zGp(h:H_ t=tT):uI t/\mR t 201<=200:=by
 have h:=KE (KF.1 h).1;exact⟨Jz t 201 oM oM,h.2.1⟩
mutual
def M?:f_->Nat
|.mk _ _ _ l=>iK l+1
def iK:List f_->Nat
|[]=>0
|t::l=>M? t+iK l
end
mutual
def RY:∀(t:f_) (m:Int),mR t m<m->mR t m=M? t
|.mk k n s l,m,h=>by
 rw[mR]at h⊢;have:=zuM l m 1 oM h;rw[M?];omega
def zuM:∀(l:List f_) (m n:Int),1<=n->rV l m n<m->rV l m n=n+iK l
|[],m,n,h1,h=>by rw[rV,iK];omega
| t::l,m,n,h1,h=>by
 have hle:=Mk t (m-n);rw[rV]at h⊢;by_cases q:n<m
 .rw[aC q]at h⊢;have hle2:=Ml l m (n+mR t (m-n)) oM;have i1:=zuM l m (n+mR t (m-n)) oM h;have i2:=RY t (m-n) oM;rw[iK];omega
 .rw[aB q]at h;omega
end
def zIJ(t:f_):1<=M? t:=by cases t;rw[M?];omega
def RZ:∀{l:List f_} {x:f_},x∈l->M? x<=iK l
|t::l,x,h=>by
 rw[iK];rcases aM.1 h with rfl|h
 .omega
 .have:=RZ h;omega
def Mr(h:H_ t=tT):M? t<=200:=by
 have h:=(zGp h).2;have:=RY t 201 oM;omega
variable {c:Ctx}{Q:Exit->St->Prop}{S:St}{ms:List Nat}
def R3{s:fD}(h:mP s=tT):s.size<=32:=by
 unfold mP at h;split at h
 .cases h
 .simp at h;exact h.1
@[simp] theorem Dp(l:oO):(bs l).size=lN l:=by
 show(bs l).data.size=_;simp[bs]
def zuH(k:Int)(n:fD)(s:oN)(l:oL)(br:Bool):vM (.mk k n s l) br=
 if k=0 then bs [97,110,121]else if k=1 then bs [110,117,108,108]else if k=2 then bs [98,111,111,108]else if k=3 then bs [105,110,116]else if k=4 then bs [115,116,114]
 else if k=5 then bs [123]++Ak s l (bs []) 0++bs [125]
 else if k=6 then(match l with
  |a::b::_=>if br=tT then bs [40]++(vM a tT++bs [32,45,62,32]++vM b oK)++bs [41]else vM a tT++bs [32,45,62,32]++vM b oK
  |_=>bs [])
 else Cf l (bs []) 0:=by rw[vM.eq_def];try rfl
mutual
def Dq:∀(t:f_) (br:Bool),iU t->(vM t br).size+60<=100*M? t
| .mk k n s l,br,h=>by
 have hw:=h;rw[iU,GM]at h;let⟨_,hl,hc⟩:=h;have hl':=(GM l).2 hl;rw[zuH,M?];split
 .simp;omega
 split
 .simp;omega
 split
 .simp;omega
 split
 .simp;omega
 split
 .simp;omega
 split
 next k5=>
  subst k5;have hc:lN s=lN l/\lN s<=16/\∀x,x∈s->mP x=tT:=by
   rcases hc with⟨_,q,_⟩|⟨_,q⟩|⟨q,_⟩|⟨q,_⟩
   .omega
   .exact q
   .omega
   .omega
  have:=R5 s l (bs []) 0 hl' hc.2.2;simp at this⊢;omega
 split
 next k6=>
  subst k6;have hc:lN l=2:=by
   rcases hc with⟨_,q,_⟩|⟨q,_⟩|⟨_,_,q⟩|⟨q,_⟩
   .omega
   .omega
   .exact q
   .omega
  match l,hc,hl' with
  |[a,b],_,hl'=>
   rw[nR,nR]at hl';have ha:=Dq a tT hl'.1;have hb:=Dq b oK hl'.2.1;simp only[iK];split
   .simp;omega
   .simp;omega
 .have:=zuI l (bs []) 0 hl';simp at this;omega
def R5:∀(s:List fD) (l:List f_) (out:fD) (i:Nat),nR l->(∀x,x∈s->mP x=tT)->(Ak s l out i).size<=out.size+100*iK l
|[],l,out,i,h,hn=>by rw[Ak];omega;all_goals (intros;contradiction)
|_::_,[],out,i,h,hn=>by rw[Ak];omega;all_goals (intros;contradiction)
|s::ss,t::ts,out,i,h,hn=>by
 rw[nR]at h;have h1:=Dq t oK h.1;have h3:=R3 (hn s oC);rw[Ak,iK];have h2:=R5 ss ts ((if 0<i then out++bs [44,32]else out)++s++bs [58,32]++vM t oK) (i+1) h.2 (λx hx=>hn x (by simp[hx]));apply aX h2;split<;>simp<;>omega
def zuI:∀(l:List f_) (out:fD) (i:Nat),nR l->(Cf l out i).size<=out.size+100*iK l
|[],out,i,h=>by rw[Cf];omega
|t::ts,out,i,h=>by
 rw[nR]at h;have h1:=Dq t tT h.1;rw[Cf,iK];have h2:=zuI ts ((if 0<i then out++bs [32,124,32]else out)++vM t tT) (i+1) h.2;apply aX h2;split<;>simp<;>omega
end
abbrev GN(e:f_):Prop:=∀br:Bool,h_ Pg 112 [.agg e.enc,.one (.bool br)] (.one (.str (vM e br)))
def zGg(hp:c.pure)(t:f_)(hw:nR t.b_)(hn:lN t.a_=lN t.b_)(hnm:∀x,x∈t.a_->mP x=tT)(hc:iK t.b_<=1000)(hl:lN t.a_<=1000)(ih:∀e,e∈t.b_->GN e)(R:fD)(hR:Ak t.a_ t.b_ (bs []) 0=R){g}{ms:oO}
  (h0:gy ms S [(6,.c (.d (.int .i64 0))),(5,.c (.d (.str (bs [])))),(2,.c (.d (.rp t.enc 0)))] [])
  (hQ:∀T M n,Abs.look T 5=.c (.d (.str R))->Q (.exit 1) ⟨T,M,n⟩):mI Pg c QU Q g S:=by
 refine fM gm hp (λx:Nat × fD=>x.1<=lN t.a_/\x.2.size+100*iK (t.b_.drop x.1)<=100*iK t.b_/\Ak (t.a_.drop x.1) (t.b_.drop x.1) x.2 x.1=R) (λx=>[(6,.c (.d (.int .i64 x.1))),(5,.c (.d (.str x.2))),(2,.c (.d (.rp t.enc 0)))]) (λ_=>[]) (λx=>lN t.a_-x.1) (0,bs []) ms ⟨oC,oC,uM hR⟩ h0 λ⟨j,out⟩ ⟨h1,h2,h3⟩=>?_;unfold QU;simp only at h1 h2 h3;simp;apply gM<;>intro h
 .have hj:j<lN t.a_:=uM h;have _x:j<lN t.b_:=oM;rw[aF hj,aF _x,Ak]at h3;rw[aF _x,iK]at h2;have hnx:=R3 (hnm _ (aO hj));have hsx:=Dq t.b_[j] oK ((GM _).1 hw _ (aO _x));have hix:=ih _ (aO _x) oK;by_cases h0:j=0
  .subst h0;simp only[Nat.lt_irrefl,if_false]at h3;simp[hj,_x,zaf];refine⟨oM,oM,?_⟩;apply gQ hix;simp[zaf];refine⟨oM,oD,?_⟩;refine fE (0+1,_) [] ⟨qM,?_,h3⟩ qM ?_
   .simp only[ax,Dp,length_cons,length_nil];omega
   .simp;decide
  .have h0':(0:Int)<j:=oM;have h0'':0<j:=oM;rw[aC h0'']at h3;simp[h0',h0'',hj,_x,zaf];refine⟨oM,oM,oM,?_⟩;apply gQ hix;simp[zaf];refine⟨oM,oD,?_⟩;refine fE (j+1,_) [] ⟨qM,?_,h3⟩ qM ?_
   .simp;omega
   .simp;exact wI
 .have hj:j=lN t.a_:=oI h;subst hj;rw[aS,Ak]at h3
  .subst h3;exact hQ _ _ _ oC
  .intros;contradiction
def zGh(hp:c.pure)(t:f_)(hw:nR t.b_)(hc:iK t.b_<=1000)(hl:lN t.b_<=1000)(ih:∀e,e∈t.b_->GN e)(R:fD)(hR:Cf t.b_ (bs []) 0=R){g}{ms:oO}
  (h0:gy ms S [(7,.c (.d (.int .i64 0))),(5,.c (.d (.str (bs [])))),(2,.c (.d (.rp t.enc 0)))] [])
  (hQ:∀T M n,Abs.look T 5=.c (.d (.str R))->Q (.exit 3) ⟨T,M,n⟩):mI Pg c QV Q g S:=by
 refine fM gm hp (λx:Nat × fD=>x.1<=lN t.b_/\x.2.size+100*iK (t.b_.drop x.1)<=100*iK t.b_/\Cf (t.b_.drop x.1) x.2 x.1=R) (λx=>[(7,.c (.d (.int .i64 x.1))),(5,.c (.d (.str x.2))),(2,.c (.d (.rp t.enc 0)))]) (λ_=>[]) (λx=>lN t.b_-x.1) (0,bs []) ms ⟨oC,oC,uM hR⟩ h0 λ⟨j,out⟩ ⟨h1,h2,h3⟩=>?_;unfold QV;simp only at h1 h2 h3;simp;apply gM<;>intro h
 .have _x:j<lN t.b_:=uM h;rw[aF _x,Cf]at h3;rw[aF _x,iK]at h2;have hsx:=Dq t.b_[j] tT ((GM _).1 hw _ (aO _x));have hix:=ih _ (aO _x) tT;by_cases h0:j=0
  .subst h0;simp only[Nat.lt_irrefl,if_false]at h3;simp[_x,zaf];refine gQ hix ?_;simp[zaf];refine jV ?_;refine fE (0+1,_) [] ⟨qM,?_,h3⟩ qM ?_
   .simp only[ax,Dp,length_cons,length_nil];omega
   .simp;decide
  .have h0':(0:Int)<j:=oM;have h0'':0<j:=oM;rw[aC h0'']at h3;simp[h0',h0'',_x,zaf];refine jV ?_;refine gQ hix ?_;simp[zaf];refine jV ?_;refine fE (j+1,_) [] ⟨qM,?_,h3⟩ qM ?_
   .simp;omega
   .simp;exact wI
 .have hj:j=lN t.b_:=oI h;subst hj;rw[aS,Cf]at h3;subst h3;exact hQ _ _ _ oC
def zGi(t:f_)(hw:iU t)(hc:M? t<=1000)(ih:∀e,e∈t.b_->GN e):GN t:=by
 intro br;refine zBq oC λo c hN hp=>?_;let⟨R,hR⟩:=oJ (vM t br);rw[hR];have hwf:=(rP t).1 hw;have hws:=(GM t.b_).2 hwf.2.1;have _W:M? t=iK t.b_+1:=by cases t;rw[M?];try rfl
 have hd:=zuH t.d_ t.name t.a_ t.b_ br;rw[show f_.mk t.d_ t.name t.a_ t.b_=t by cases t;rfl,hR]at hd;have hll:∀l:oL,lN l<=iK l:=by
  intro l
  induction l with
  |nil=>simp
  |cons x l ih=>have:=zIJ x;simp[iK];omega
 have hkl:=hll t.b_;unfold Yi;by_cases k0:t.d_=0
 .simp[k0]at hd;simp[k0,hd]
 by_cases k1:t.d_=1
 .simp[k1]at hd;simp[k1,hd]
 by_cases k2:t.d_=2
 .simp[k2]at hd;simp[k2,hd]
 by_cases k3:t.d_=3
 .simp[k3]at hd;simp[k3,hd]
 by_cases k4:t.d_=4
 .simp[k4]at hd;simp[k4,hd]
 by_cases k5:t.d_=5
 .simp[k5]at hd;have hn:lN t.a_=lN t.b_/\lN t.a_<=16/\∀x,x∈t.a_->mP x=tT:=by
   rcases hwf.2.2 with⟨_,q,_⟩|⟨_,q⟩|⟨q,_⟩|⟨q,_⟩
   .omega
   .exact q
   .omega
   .omega
  have hfs:=R5 t.a_ t.b_ (bs []) 0 hws hn.2.2;simp only[Dp,length_nil,Nat.zero_add]at hfs;simp[k5];refine zGg hp t hws hn.1 hn.2.2 oM oM ih _ rfl (ms:=[]) oC λT M n t5=>?_;generalize Ak t.a_ t.b_ (bs []) 0=f at*
  simp[t5,zaf];refine⟨oM,oM,?_⟩;rw[hd]
 by_cases k6:t.d_=6
 .have hn:lN t.b_=2:=by
   rcases hwf.2.2 with⟨_,q,_⟩|⟨q,_⟩|⟨_,_,q⟩|⟨q,_⟩
   .omega
   .omega
   .exact q
   .omega
  let⟨a,b,hab⟩:∃a b,t.b_=[a,b]:=by
   match t.b_,hn with
   |[a,b],_=>exact⟨a,b,rfl⟩
  have hia:=ih a (by rw[hab];simp) tT;have hib:=ih b (by rw[hab];simp) oK;have hsa:=Dq a tT (hwf.2.1 a (by rw[hab];simp));have hsb:=Dq b oK (hwf.2.1 b (by rw[hab];simp));rw[hab]at _W hd;simp only[iK]at _W;simp[k6]at hd;simp[k6,hab,zaf];refine gQ hia ?_;simp[hab,zaf];refine jV ?_;refine gQ hib ?_;generalize vM a tT=sa at*
  generalize vM b oK=sb at*
  simp[zaf];refine⟨oM,oD,?_⟩;cases br with
  |true=>
   simp at hd;simp[zaf];refine⟨oM,oM,?_⟩;rw[hd]
  |false=>
   simp at hd;simp[hd]
 .simp[k0,k1,k2,k3,k4,k5,k6]at hd;simp[k0,k1,k2,k3,k4,k5,k6];refine zGh hp t hws oM oM ih R hd.symm (ms:=[]) oC λT M n t5=>?_;simp[t5]
mutual
def zAf:∀t:f_,iU t->M? t<=1000->GN t
|.mk k n s l,hw,hc=>by
 have hws:=hw;rw[iU]at hws;rw[M?]at hc;exact zGi (.mk k n s l) hw (by rw[M?];omega) (λe he=>zwY l hws.2.1 oM e he)
def zwY:∀l:List f_,nR l->iK l<=1000->∀e,e∈l->GN e
|[],_,_,e,h=>by cases h
|d::l,hw,hc,e,h=>by
 rw[nR]at hw;rw[iK]at hc;cases h with
 |head=>exact zAf d hw.1 oM
 |tail _ h=>exact zwY l hw.2 oM e h
end
theorem Ms(t:f_):h_ Pg 70 [.agg t.enc] (.one (.str (Al t))):=by
 refine zBp oC λo c hN hp=>?_;let⟨R,hR⟩:=oJ (Al t);rw[hR];unfold Al at hR;have hi:H_ t=(decide ((kz t).2=0)&&nD (kz t).1 t):=rfl;have hsh:H_ t=tT->GN t:=λh=>zAf t (Cn h) (by have:=Mr h;omega);simp[Yh];apply gQ (GL t);generalize kz t=N at*
 simp;apply gQ (I5 _ _);by_cases h:N.2=0
 .by_cases h2:nD N.1 t=tT
  .have hx:H_ t=tT:=by rw[hi];simp[h,h2]
   rw[aC hx]at hR;simp[h,h2];apply gQ (hsh hx oK);simp[hR]
  .have hx:¬H_ t=tT:=by rw[hi];simp[h,h2]
   rw[aB hx]at hR;subst hR;simp[h,h2]
 .have hx:¬H_ t=tT:=by rw[hi];simp[h]
  rw[aB hx]at hR;subst hR;simp[h]
variable {x:f_}
def h_.erdV{P:Program}{f:FuncId}{args:sQ}{v v':DV}(h:h_ P f args v)(e:v.K_=v'):h_ P f args v':=by
 subst e;refine⟨h.1,λph w us hp hG hS r=>(h.2 ph w us hp hG hS r).mono λe w' q=>?_⟩;let⟨vC,h',q1,q2,q3,q4,q5,q6,q7,q8⟩:=q;exact⟨vC,h',q1,q2,q3,q4,q5,q6,q7,jJ.K_ q8⟩
@[simp] theorem I?.F_(p:I?):lN p.enc=6:=by simp[I?.enc]
@[simp] theorem I?.enc_0(p:I?):p.enc[0]?=sS (.int .i64 p.tag):=rfl
@[simp] theorem I?.enc_g0(p:I?)(h:0<lN p.enc):p.enc[0]=.int .i64 p.tag:=rfl
@[simp] theorem I?.cut_t(p:I?):cut p.enc 2 4=p.t.enc:=by unfold I?.enc;rw[f_.l_];try rfl
@[simp] theorem I?.cut_tM(p:I?):cut (p.enc.map AC.d) 2 4=p.t.enc.map .d:=by unfold I?.enc;rw[f_.l_];try rfl
@[simp] theorem I?.er_map(p:I?):p.enc.map D.er=p.enc:=by unfold I?.enc;rw[f_.l_];try rfl
theorem zGx(a b c d e f:AC)(T:f_):z_ [a,b,c,d,e,f] 2 (T.enc.map AC.d)=a::b::T.enc.map .d:=by rw[T.l_];try rfl
theorem zK9(a b:AC)(T:f_):cut (a::b::T.enc.map AC.d) 0 6=a::b::T.enc.map .d:=by rw[T.l_];try rfl
attribute [simp] zGx zK9
@[simp] theorem I?.enc_4(p:I?):p.enc[4]?=sS (.sl oK 1 (encS p.t.a_)):=by unfold I?.enc;rw[f_.l_];try rfl
@[simp] theorem I?.enc_5(p:I?):p.enc[5]?=sS (.sl oK 4 (p.t.b_.map f_.enc)):=by unfold I?.enc;rw[f_.l_];try rfl
@[simp] theorem I?.enc_g4(p:I?)(h:4<lN p.enc):p.enc[4]=.sl oK 1 (encS p.t.a_):=by have:=p.enc_4;rw[aA h]at this;exact bu this
@[simp] theorem I?.enc_g5(p:I?)(h:5<lN p.enc):p.enc[5]=.sl oK 4 (p.t.b_.map f_.enc):=by have:=p.enc_5;rw[aA h]at this;exact bu this
def nH{α β:Type}(f:α->β)(v:List α):take (lN v) (v.map f)=v.map f:=aD (by rw[aa];exact aJ _)
def Mt(l:qB)(tag:Int):h_ Pg 154 [.one (.sl oK 6 (l.map I?.enc)),.one (.int .i64 tag)] (.a? [.agg (jl l tag).1.enc,.one (.bool (jl l tag).2)]):=by
 refine zBr oC λo c hN hp=>?_;have hl:lN l<=zaf:=by have:=o.1;simp only[DV.ok,D.ok,aa]at this;exact this.1
 unfold zaf at hl;let⟨R,hR⟩:=oJ (jl l tag);rw[hR];unfold jl at hR;simp[Yo];refine fM gm hp (λj:Nat=>j<=lN l/\(l.drop j).find? (λp=>decide (p.tag=tag))=l.find? λp=>decide (p.tag=tag)) (λj=>[(6,.c (.d (.int .i64 j))),(4,.c (.ptr 0 0)),(1,.c (.d (.int .i64 tag))),(0,.c (.d (.sl oK 6 (l.map I?.enc))))]) (λ_=>[.box [.d (.int .i64 0),.d (.bool oK),.d (.int .i64 0),.d (.str (bs [])),.d (.sl tT 1 []),.d (.sl tT 4 [])]]) (λj=>lN l-j) 0 [0] ⟨oC,oC⟩ oC λj ⟨h1,h2⟩=>?_;simp[Yn];apply gM<;>intro h
 .have hj:j<lN l:=uM h;rw[aF hj,find?_cons]at h2;let⟨x,hx⟩:=oJ (l[j]);rw[hx]at h2;by_cases q:x.tag=tag
  .simp[q]at h2;rw[<-h2]at hR;subst hR;simp[hj,hx,q]
  .simp[q]at h2;simp[hj,hx,q];apply fE (j+1) [0] ⟨oM,uM h2⟩ oM;simp;exact wI
 .have hj:j=lN l:=oI h;subst hj;rw[aS,find?_nil]at h2;rw[<-h2]at hR;subst hR;simp;rfl
def R6(t:f_)(s:fD)(hn:lN t.a_<=lN t.b_):h_ Pg 155 [.agg t.enc,.one (.str s)] (.a? [.agg (jC t s).1.enc,.one (.bool (jC t s).2)]):=by
 refine zy8 oC λo c hN hp=>?_;have hf:=Jy o.1;unfold zaf at hf;let⟨R,hR⟩:=oJ (jC t s);rw[hR];unfold jC at hR;simp[Yq];refine fM gm hp (λj:Nat=>j<=lN t.a_/\vZ (t.a_.drop j) (t.b_.drop j) s=R) (λj=>[(6,.c (.d (.int .i64 j))),(4,.c (.ptr 0 0)),(2,.c (.d (.rp t.enc 0))),(1,.c (.d (.str s)))]) (λ_=>[wW]) (λj=>lN t.a_-j) 0 [0] ⟨oC,uM hR⟩ oC λj ⟨h1,h2⟩=>?_;simp[Yp];apply gM<;>intro h
 .have hj:j<lN t.a_:=uM h;have _x:j<lN t.b_:=oM;rw[aF hj,aF _x,vZ]at h2;by_cases q:t.a_[j]=s
  .rw[aC q]at h2;subst h2;simp[hj,_x,q]
  .rw[aB q]at h2;simp[hj,_x,q];apply fE (j+1) [0] ⟨oM,h2⟩ oM;simp;exact wI
 .have hj:j=lN t.a_:=oI h;subst hj;rw[aS,vZ]at h2
  .subst h2;simp[mG]
  .intros;contradiction
def kT(k:Int):oQ:=[.int .i64 k,.str (bs []),.sl tT 1 [],.sl tT 4 []]
def mU:o5:=[
.int .i64 0::.bool oK::kT 1,.int .i64 1::.bool oK::kT 2,.int .i64 2::.bool oK::kT 3,.int .i64 3::.bool oK::kT 4,
.int .i64 4::.bool tT::kT 5,[.int .i64 5,.bool oK,.int .i64 6,.str (bs []),.sl tT 1 [],.sl tT 4 [kT 0,kT 0]]]
abbrev KH(es:o5):A_:=.arr 6 (es.map (·.map .d))
def zDZ(t:f_)(h0:t.d_=0):h_ Pg 113 [.agg t.enc] (.one (.sl oK 6 mU)):=by
 refine Ym oC λo c hN hp=>?_;unfold QW;simp[h0];apply fT [.t 3];simp;refine fM gm hp (λj:Nat=>j<=6) (λj=>[(4,.c (.d (.int .i64 j))),(3,.c (.x_ 6 0 0 j))]) (λj=>[KH (mU.take j)]) (λj=>6-j) 0 [0] oC (by simp[mU]) λj h1=>?_;unfold Yk;have w1:IntKind.i64.wrap 1=1:=by decide
 have w2:IntKind.i64.wrap 2=2:=by decide
 have w3:IntKind.i64.wrap 3=3:=by decide
 have w4:IntKind.i64.wrap 4=4:=by decide
 have w5:IntKind.i64.wrap 5=5:=by decide
 have w6:IntKind.i64.wrap 6=6:=by decide
 have hc:j=0\/j=1\/j=2\/j=3\/j=4\/j=5\/j=6:=oM;rcases hc with rfl|rfl|rfl|rfl|rfl|rfl|rfl
 .simp[mU,kT,w1,w2,w3,w4,w5,w6];apply fE 1 [2] oM oM;simp[mU,kT,w1,w2,w3,w4,w5,w6]
 .simp[mU,kT,w1,w2,w3,w4,w5,w6];apply fE 2 [2] oM oM;simp[mU,kT,w1,w2,w3,w4,w5,w6]
 .simp[mU,kT,w1,w2,w3,w4,w5,w6];apply fE 3 [2] oM oM;simp[mU,kT,w1,w2,w3,w4,w5,w6]
 .simp[mU,kT,w1,w2,w3,w4,w5,w6];apply fE 4 [2] oM oM;simp[mU,kT,w1,w2,w3,w4,w5,w6]
 .simp[mU,kT,w1,w2,w3,w4,w5,w6];apply fE 5 [2] oM oM;simp[mU,kT,w1,w2,w3,w4,w5,w6]
 .simp[mU,kT,w1,w2,w3,w4,w5,w6];apply fE 6 [2] oM oM;simp[mU,kT,w1,w2,w3,w4,w5,w6]
 .simp[mU,kT]
def GQ(t:f_)(hk:lN t.b_<=1000):h_ Pg 113 [.agg t.enc] (.one (.sl oK 6 ((jk t).map I?.enc))):=by
 by_cases h0:t.d_=0
 .apply h_.erdV (zDZ t h0);unfold jk;rw[aC h0];try rfl
 refine Ym oC λo c hN hp=>?_;have hf:=Jy o.1;unfold zaf at hf;let⟨R,hR⟩:=oJ (jk t);rw[hR];unfold jk at hR;rw[aB h0]at hR;unfold QW;by_cases h7:t.d_=7;rotate_left
 .rw[aC h7]at hR;subst hR;simp[h0,h7];apply gQ (Mm t);simp[I?.enc];decide
 rw[aB (λz=>z h7)]at hR;simp[h0,h7];apply fT [.t 3];simp;subst hR;refine fM gm hp (λj:Nat=>j<=lN t.b_) (λj=>[(6,.c (.d (.int .i64 j))),(3,.c (.x_ 6 0 0 j)),(1,.c (.d (.rp t.enc 0)))]) (λj=>[KH (((t.b_.take j).map λk=>(⟨iJ k,oK,k⟩:I?)).map I?.enc)]) (λj=>lN t.b_-j) 0 [0] oC oC λj h1=>?_;simp[Yl];apply gM<;>intro h
 .have hj:j<lN t.b_:=uM h;let⟨x,hx⟩:=oJ (t.b_[j]);simp[hj,hx];apply gQ (Mm x);have hmn:min j (lN t.b_)=j:=oM;simp[I?.enc,hj,hx,hmn];refine⟨oM,oD,?_⟩;apply fE (j+1) [1] oM oM;rw[aN hj,hx];simp[I?.enc,hmn];refine⟨wI,by rw[take_take,fA],λx hx=>?_⟩;obtain⟨y,_,rfl⟩:=af.1 (dH hx);simp
 .have hj:j=lN t.b_:=oI h;subst hj;simp[nH];try trace_state
def KI:∀{l:List f_} {x:f_},x∈l->jU x<=jQ l
|t::l,x,h=>by
 rw[jQ];rcases aM.1 h with rfl|h
 .omega
 .have:=KI h;omega
def Dr(h:x∈t.b_):jU x<jU t:=by
 cases t with
 |mk k n s l=>rw[jU];have:=KI (l:=l) h;omega
def Mv:∀(ns:List fD) (ks:List f_) (s:fD),(vZ ns ks s).2=tT->(vZ ns ks s).1∈ks
|[],ks,s,h=>by rw[vZ]at h;cases h;all_goals (intros;contradiction)
|_::_,[],s,h=>by rw[vZ]at h;cases h;all_goals (intros;contradiction)
| n::ns,k::ks,s,h=>by
 rw[vZ]at h⊢;by_cases q:n=s
 .rw[aC q];simp
 .rw[aB q]at h⊢;exact eT _ (Mv ns ks s h)
def KJ(h:iU t):lN t.a_<=lN t.b_:=by
 rcases((rP t).1 h).2.2 with⟨_,_,q,_⟩|⟨_,q,_⟩|⟨_,q,_⟩|⟨_,q,_⟩
 .rw[q];simp
 .omega
 .rw[q];simp
 .rw[q];simp
def Aq(h:iU t)(hx:x∈t.b_):iU x:=((rP t).1 h).2.1 x hx
def I7(h:iU t)(hk:t.d_=6):lN t.b_=2:=by
 rcases((rP t).1 h).2.2 with⟨_,q,_⟩|⟨q,_⟩|⟨_,_,q⟩|⟨q,_⟩
 .omega
 .omega
 .exact q
 .omega
def KL(h:iJ t=5):t.d_=6:=by
 unfold iJ at h;split at h
 .omega
 .omega
def KM(h:iU t)(h0:t.d_≠0){p:I?}(hp:p∈jk t):iU p.t/\p.tag=iJ p.t/\(∀x,x∈p.t.b_->jU x<jU t)/\p.opn=oK:=by
 unfold jk at hp;rw[aB h0]at hp;split at hp
 .simp at hp;subst hp;exact⟨h,rfl,λx hx=>Dr hx,rfl⟩
 .obtain⟨k,hk,rfl⟩:=af.1 hp;exact⟨Aq h hk,rfl,λx hx=>Nat.lt_trans (Dr hx) (Dr hk),rfl⟩
def GR{l:qB}{tag:Int}(h:(jl l tag).2=tT):(jl l tag).1∈l/\(jl l tag).1.tag=tag:=by
 unfold jl at h⊢;cases e:l.find? λp=>decide (p.tag=tag)with
 |none=>rw[e]at h;cases h
 |some p=>
  have h1:=mem_of_find?_eq_some e;have h2:=find?_some e;exact⟨h1,uM h2⟩
abbrev GU(lo:Bool)(L R:qB)(i:Nat):oZ:=[(9,.c (.d (.int .i64 i))),(8,.c (.d (.sl oK 6 (R.map I?.enc)))),(7,.c (.d (.sl oK 6 (L.map I?.enc)))),(2,.c (.d (.bool lo)))]
abbrev KN(lo:Bool)(rc:f_->f_->Bool)(a b:f_):Prop:=h_ Pg 98 [.agg a.enc,.agg b.enc,.one (.bool lo)] (.one (.bool (rc a b)))
theorem zD0{c:Ctx}(hp:c.pure)(lo:Bool)(L R:qB)(i:Nat)(q:I?)(m:f_)(rc:f_->f_->Bool)(hm:iU m)(hq:iU q.t)(hl:lN q.t.a_<=1000)(ih:∀x,x∈m.b_->∀y,y∈q.t.b_->KN lo rc x y){Q:Exit->St->Prop}{S:St}{g}{ms:oO}
  (h0:gy ms S ((13,.c (.d (.int .i64 0)))::(12,.c (.ptr 1 0))::(10,.c (.ptr 0 0))::GU lo L R i) [.box (q.enc.map .d),.box (m.enc.map .d)])
  (hN:Dh rc m q.t.a_ q.t.b_=oK->∀T M n,Abs.look T 6=.c (.d (.bool oK))->Q .ret ⟨T,M,n⟩)
  (hQ:Dh rc m q.t.a_ q.t.b_=tT->∀T,Abs.look T 12=.c (.ptr 1 0)->Abs.look T 10=.c (.ptr 0 0)->Abs.look T 9=.c (.d (.int .i64 i))->Abs.look T 8=.c (.d (.sl oK 6 (R.map I?.enc)))->Abs.look T 7=.c (.d (.sl oK 6 (L.map I?.enc)))->Abs.look T 2=.c (.d (.bool lo))->Q (.exit 2) ⟨T,r_ [.box (q.enc.map .d),.box (m.enc.map .d)],2⟩):mI Pg c QX Q g S:=by
 have hnk:=KJ hq;let⟨F0,hF⟩:=oJ (Dh rc m q.t.a_ q.t.b_);rw[hF]at hN hQ;refine fM gm hp (λj:Nat=>j<=lN q.t.a_/\Dh rc m (q.t.a_.drop j) (q.t.b_.drop j)=F0) (λj=>(13,.c (.d (.int .i64 j)))::(12,.c (.ptr 1 0))::(10,.c (.ptr 0 0))::GU lo L R i) (λ_=>[.box (q.enc.map .d),.box (m.enc.map .d)]) (λj=>lN q.t.a_-j) 0 ms ⟨oC,uM hF⟩ h0 λj ⟨h1,h2⟩=>?_;unfold QX;simp;apply gM<;>intro h
 .have hj:j<lN q.t.a_:=uM h;have _x:j<lN q.t.b_:=oM;rw[aF hj,aF _x,Dh]at h2;have hfm:=Mv m.a_ m.b_ q.t.a_[j];have hff:vZ m.a_ m.b_ q.t.a_[j]=jC m q.t.a_[j]:=rfl;rw[hff]at hfm;simp[hj,_x];refine gQ (R6 m _ (KJ hm)) ?_;generalize jC m q.t.a_[j]=f at*
  by_cases hf:f.2=tT
  .have hix:=ih _ (hfm hf) _ (aO _x);simp only[hf,Bool.true_and]at h2;simp[hf,hj,_x];refine oG ?_;refine gQ hix ?_;generalize rc f.1 q.t.b_[j]=z at*
   cases z with
   |true=>
    simp only[Bool.true_and]at h2;simp;refine oG ?_;refine fE (j+1) [0,1] ⟨oM,h2⟩ oM ?_;simp;exact wI
   |false=>
    simp only[Bool.false_and]at h2;simp;exact⟨oD,hN h2.symm _ _ _ oC⟩
  .simp only[hf,Bool.false_and]at h2;simp[hf,hj,_x];exact⟨oD,oD,hN h2.symm _ _ _ oC⟩
 .have hj:j=lN q.t.a_:=oI h;subst hj;rw[aS,Dh]at h2
  .exact hQ h2.symm _ oC oC oC oC oC oC
  .intros;contradiction
def I8(t:f_):1<=jU t:=by cases t;rw[jU];omega
def R7(h:iU t):lN t.a_<=16:=by
 rcases((rP t).1 h).2.2 with⟨_,_,q,_⟩|⟨_,_,q,_⟩|⟨_,q,_⟩|⟨_,q,_⟩
 .rw[q];simp
 .omega
 .rw[q];simp
 .rw[q];simp
def yT(h:iU t):lN t.b_<=16:=by
 rcases((rP t).1 h).2.2 with⟨_,_,_,q⟩|⟨_,q,r,_⟩|⟨_,_,q⟩|⟨_,_,q,_⟩
 .rw[q];simp
 .omega
 .omega
 .omega
def R8(t:f_):(jk t).length<=6+lN t.b_:=by
 unfold jk;split
 .simp
 split
 .simp;omega
 .simp
def Er(h:lN t.b_=2):R? t∈t.b_/\t.b_[0]?=sS (R? t):=by
 unfold R?
 match t.b_,h with
 |[a,b],_=>simp
def Dt(h:lN t.b_=2):Q? t∈t.b_/\t.b_[1]?=sS (Q? t):=by
 unfold Q?
 match t.b_,h with
 |[a,b],_=>simp
def Mw(lo:Bool):∀(n:Nat) (a b:f_),iU a->iU b->jU a+jU b<=n->KN lo (yM lo n) a b
|0,a,b,_,_,h=>by have:=I8 a;omega
| n + 1,a,b,wa,wb,hn=>by
 refine zy9 oC λo c hN hp=>?_;let⟨F0,hF⟩:=oJ (yM lo (n+1) a b);rw[hF];rw[yM]at hF;unfold Yt;by_cases a0:a.d_=0
 .rw[aC (.inl a0)]at hF;cases lo with
  |true=>
   simp at hF;simp[a0,hF]
  |false=>
   simp[a0]at hF;simp[a0,hF]
 by_cases b0:b.d_=0
 .rw[aC (.inr b0)]at hF;cases lo with
  |true=>
   simp at hF;simp[a0,b0,hF]
  |false=>
   rw[<-hF];simp[a0,b0]
 rw[aB oM]at hF;have hpa:=λp hp=>KM (p:=p) wa a0 hp;have hpb:=λp hp=>KM (p:=p) wb b0 hp;simp[a0,b0];refine gQ (GQ a (by have:=yT wa;omega)) ?_;simp;refine gQ (GQ b (by have:=yT wb;omega)) ?_;have hL:(jk a).length<=1000:=by have:=yT wa;have:=R8 a;omega
 generalize jk a=L at*
 generalize jk b=R at*
 simp;refine fM gm hp (λi:Nat=>i<=lN L/\((L.drop i).all λp=>(jl R p.tag).2&&(Dh (yM lo n) p.t (jl R p.tag).1.t.a_ (jl R p.tag).1.t.b_&&(!decide ((jl R p.tag).1.tag=5)||(yM lo n (R? (jl R p.tag).1.t) (R? p.t)&&yM lo n (Q? p.t) (Q? (jl R p.tag).1.t)))))=F0) (λi=>GU lo L R i) (λ_=>[]) (λi=>lN L-i) 0 [] ⟨oC,uM hF⟩ oC λi ⟨i1,i2⟩=>?_;unfold Yr;simp;apply gM<;>intro h
 .have hi:i<lN L:=uM h;rw[aF hi,all_cons]at i2;let⟨p,hx⟩:=oJ (L[i]);have hpm:=hpa p (by rw[<-hx];exact aO hi);rw[hx]at i2;simp[hi,hx];refine gQ (Mt R p.tag) ?_;have hq:=λh=>GR (l:=R) (tag:=p.tag) h;generalize jl R p.tag=q at*
  by_cases q2:q.2=tT;rotate_left
  .simp only[q2,Bool.false_and]at i2;simp[q2];simpa using i2
  let⟨qm,qt⟩:=hq q2;have hqm:=hpb q.1 qm;simp only[q2,Bool.true_and]at i2;simp[q2,hi,hx];refine zD0 hp lo L R i q.1 p.t (yM lo n) hpm.1 hqm.1 (by have:=R7 hqm.1;omega) (λx hx y hy=>Mw lo n x y (Aq hpm.1 hx) (Aq hqm.1 hy) (by have:=hpm.2.2.1 x hx;have:=hqm.2.2.1 y hy;omega)) (ms:=[0,1]) oC (λhf T M n' t6=>?_) (λhf T t12 t10 t9 t8 t7 t2=>?_)
  .rw[hf]at i2;simp only[Bool.false_and]at i2;simp[t6,i2]
  .rw [hf]at i2;simp only[Bool.true_and]at i2;by_cases g5:q.1.tag=5
   .have hk1:=I7 hqm.1 (KL (by rw[<-hqm.2.1];exact g5));have hk2:=I7 hpm.1 (KL (by rw[<-hpm.2.1,<-qt];exact g5));have m0:=Er hk1;have m1:=Dt hk1;have n0:=Er hk2;have n1:=Dt hk2;have e1:h_ Pg 98 [.agg (R? q.1.t).enc,.agg (R? p.t).enc,.one (.bool lo)] (.one (.bool (yM lo n (R? q.1.t) (R? p.t)))):=Mw lo n (R? q.1.t) (R? p.t) (Aq hqm.1 m0.1) (Aq hpm.1 n0.1) (by have:=hpm.2.2.1 _ n0.1;have:=hqm.2.2.1 _ m0.1;omega);have e2:h_ Pg 98 [.agg (Q? p.t).enc,.agg (Q? q.1.t).enc,.one (.bool lo)] (.one (.bool (yM lo n (Q? p.t) (Q? q.1.t)))):=Mw lo n (Q? p.t) (Q? q.1.t) (Aq hpm.1 n1.1) (Aq hqm.1 m1.1) (by have:=hpm.2.2.1 _ n1.1;have:=hqm.2.2.1 _ m1.1;omega);simp only[g5,decide_true,Bool.not_true,Bool.false_or]at i2;generalize yM lo n (R? q.1.t) (R? p.t)=z1 at*
    generalize yM lo n (Q? p.t) (Q? q.1.t)=z2 at*
    simp[t10,t12,t2,g5,m0.2,n0.2];refine gQ e1 ?_;cases z1 with
    |false=>
     simp only[Bool.false_and]at i2;simp;exact⟨oD,i2.symm⟩
    | true=>
     simp only[Bool.true_and]at i2;simp[t10,t12,t2,m1.2,n1.2,t9];refine gQ e2 ?_;cases z2 with
     |false=>
      simp only[Bool.false_and]at i2;simp;exact⟨oD,i2.symm⟩
     |true=>
      simp only[Bool.true_and]at i2;simp[t9];refine oG ?_;refine fE (i+1) [] ⟨oM,i2⟩ oM ?_;simp[t9,t8,t7,t2];exact wI
   .simp only[g5,decide_false,Bool.not_false,Bool.true_or,Bool.true_and]at i2;simp[t10,t12,t2,g5,t9];refine oG ?_;refine fE (i+1) [] ⟨oM,i2⟩ oM ?_;simp[t9,t8,t7,t2];exact wI
 .have hi:i=lN L:=oI h;subst hi;rw[aS,all_nil]at i2;simp[i2]
def Mx(lo:Bool)(a b:f_)(wa:iU a)(wb:iU b):KN lo (uE lo) a b:=Mw lo (jU a+jU b) a b wa wb (aJ _)
def KO(a b:f_):h_ Pg 110 [.agg a.enc,.agg b.enc] (.one (.bool (qg a b))):=by
 refine zDF oC λo c hN hp=>?_;unfold Yu qg;have H:H_ a=tT->H_ b=tT->KN oK (uE oK) a b:=λh k=>Mx oK a b (Cn h) (Cn k);simp;apply gQ (Bi a);simp;apply gQ (Bi b);generalize H_ a=x at*
 generalize H_ b=y at*
 cases x<;>cases y<;>simp;apply gQ (H rfl rfl);simp
def zAp(a b:f_):h_ Pg 65 [.agg a.enc,.agg b.enc] (.one (.bool (Di a b))):=by
 refine zBs oC λo c hN hp=>?_;unfold Yv Di;have H:H_ a=tT->H_ b=tT->KN tT (uE tT) a b:=λh k=>Mx tT a b (Cn h) (Cn k);simp;apply gQ (Bi a);simp;apply gQ (Bi b);generalize H_ a=x at*
 generalize H_ b=y at*
 cases x<;>cases y<;>simp;apply gQ (H rfl rfl);simp
abbrev R9(a b:f_)(i:Nat):oZ:=[(9,.c (.d (.int .i64 i))),(8,.c (.ptr 2 0)),(7,.c (.ptr 1 0)),(4,.c (.ptr 0 0)),(3,.c (.d (.rp b.enc 0))),(2,.c (.d (.rp a.enc 0)))]
abbrev Rl(ks:oL):oV:=[wW,wW,.box [.d (.int .i64 7),.d (.str (bs [])),.d (.sl tT 1 []),.x_ 4 3 0 (lN ks)],nQ ks]
def zIt(a b:f_):h_ Pg 161 [.agg a.enc,.agg b.enc] (.agg (Bd a b).enc):=by
 refine zBt oC λo c hN hp=>?_;let⟨R,hR⟩:=oJ (Bd a b);rw[hR];unfold Bd at hR;unfold Yx;simp;refine gQ (KO a b) ?_;by_cases s1:qg a b=tT
 .rw[aC s1]at hR;subst hR;simp[s1]
 rw[aB s1]at hR;simp[s1];refine gQ (KO b a) ?_;by_cases s2:qg b a=tT
 .rw[aC s2]at hR;subst hR;simp[s2]
 rw[aB s2]at hR;simp[s2];refine gQ (Bi a) ?_;simp;refine gQ (Bi b) ?_;by_cases na:H_ a=tT;rotate_left
 .rw[aC (.inl (uM na))]at hR;subst hR;simp[na,mG]
 by_cases nb:H_ b=tT;rotate_left
 .rw[aC (.inr (.inl (uM nb)))]at hR;subst hR;simp[na,nb,mG]
 by_cases a0:a.d_=0
 .rw[aC (.inr (.inr (.inl a0)))]at hR;subst hR;simp[na,nb,a0,mG]
 by_cases b0:b.d_=0
 .rw[aC (.inr (.inr (.inr b0)))]at hR;subst hR;simp[na,nb,a0,b0,mG]
 rw[aB (by simp[na,nb,a0,b0])]at hR;have wa:=Cn na;have wb:=Cn nb;simp[na,nb,a0,b0];refine fT [.c 2 3] ?_;simp;let⟨F0,hF⟩:=oJ (Cg a b [0,1,2,3,4,5] []);rw[hF]at hR;refine fM gm hp (λx:Nat × List f_=>x.1<=6/\lN x.2<=x.1/\Cg a b (Ep x.1) x.2=F0) (λx=>R9 a b x.1) (λx=>Rl x.2) (λx=>6-x.1) (0,[]) [0,1,2,3] ⟨oC,oC,hF⟩ oC λ⟨t,ks⟩ ⟨i1,i2,i3⟩=>?_;unfold Yw;simp only at i1 i2 i3;simp;apply gM<;>intro h
 .have ht:t<6:=oI h;rw[zwr ht,Cg]at i3;refine gQ (GQ a (by have:=yT wa;omega)) ?_;simp;refine gQ (Mt _ _) ?_;simp;refine gQ (GQ b (by have:=yT wb;omega)) ?_;simp;refine gQ (Mt _ _) ?_;have hm:=λh=>KM (p:=(jl (jk a) t).1) wa a0 (GR h).1;have hn:=λh=>KM (p:=(jl (jk b) t).1) wb b0 (GR h).1;generalize jl (jk a) t=m at*
  generalize jl (jk b) t=n at*
  have hw:=wI (n:=(t:Int)+1);by_cases m2:m.2=tT
  .by_cases n2:n.2=tT
   .rw[aC ⟨m2,n2⟩]at i3;have e1:h_ Pg 98 [.agg m.1.t.enc,.agg n.1.t.enc,.one (.bool oK)] (.one (.bool (uE oK m.1.t n.1.t))):=Mx oK _ _ (hm m2).1 (hn n2).1;have e2:h_ Pg 98 [.agg n.1.t.enc,.agg m.1.t.enc,.one (.bool oK)] (.one (.bool (uE oK n.1.t m.1.t))):=Mx oK _ _ (hn n2).1 (hm m2).1;simp[m2,n2];refine gQ e1 ?_;by_cases z1:uE oK m.1.t n.1.t=tT
    .rw[aC z1]at i3;simp[z1];refine jV ?_;refine fE (t+1,ks++[n.1.t]) [0,1,2,6] ⟨qM,by simp;omega,i3⟩ qM ?_;simp[hw];exact yQ ks
    rw[aB z1]at i3;simp[z1,m2,n2];refine gQ e2 ?_;by_cases z2:uE oK n.1.t m.1.t=tT
    .rw[aC z2]at i3;simp[z2];refine jV ?_;refine fE (t+1,ks++[m.1.t]) [0,1,2,6] ⟨qM,by simp;omega,i3⟩ qM ?_;simp[hw];exact yQ ks
    rw[aB z2]at i3;rw[<-i3]at hR;simp only at hR;subst hR;simp[z2,m2,n2,mG]
   .rw[aB (λz=>n2 z.2),aC m2]at i3;simp[m2,n2];refine jV ?_;refine fE (t+1,ks++[m.1.t]) [0,1,2,6] ⟨qM,by simp;omega,i3⟩ qM ?_;simp[hw];exact yQ ks
  .rw[aB (λz=>m2 z.1),aB m2]at i3;by_cases n2:n.2=tT
   .rw[aC n2]at i3;simp[m2,n2];refine jV ?_;refine fE (t+1,ks++[n.1.t]) [0,1,2,6] ⟨qM,by simp;omega,i3⟩ qM ?_;simp[hw];exact yQ ks
   .rw[aB n2]at i3;simp[m2,n2];refine fE (t+1,ks) [0,1,2,3] ⟨qM,qM,i3⟩ qM ?_;simp[hw]
 .have ht:t=6:=oI h;subst ht;rw[show Ep 6=[]from rfl,Cg]at i3;rw[<-i3]at hR;simp only at hR;have hNm:h_ Pg 94 [.agg [.int .i64 7,.str (bs []),.sl tT 1 [],.sl oK 4 (ks.map f_.enc)]] (.a? [.agg (kz (.mk 7 (bs []) [] ks)).1.enc,.one (.int .i64 (kz (.mk 7 (bs []) [] ks)).2)]):=h_.K_ (GL (.mk 7 (bs []) [] ks)) (by simp[I6,DV.R_,DV.K_,D.W_,D.K_]);have z:take (lN ks) (List.map f_.enc ks)=List.map f_.enc ks:=aD oC;simp;refine fQ [3] ?_;simp[iE,yQ,z];refine gQ hNm ?_;generalize kz (.mk 7 (bs []) [] ks)=N at*
  by_cases n0:N.2=0
  .rw[aC n0]at hR;subst hR;simp[iE,n0]
  .rw[aB n0]at hR;subst hR;simp[iE,n0,mG]
abbrev Rm(t:f_)(tag:Int)(i:Nat):oZ:=[(10,.c (.d (.int .i64 i))),(9,.c (.ptr 3 0)),(7,.c (.ptr 2 0)),(5,.c (.ptr 1 0)),(4,.c (.ptr 0 0)),(2,.c (.d (.rp t.enc 0))),(1,.c (.d (.int .i64 tag)))]
abbrev Rn(p:I?)(ks:oL):oV:=[wW,wW,.box (p.enc.map .d),.box [.d (.int .i64 7),.d (.str (bs [])),.d (.sl tT 1 []),.x_ 4 4 0 (lN ks)],nQ ks]
def zDx(t:f_)(tag:Int):h_ Pg 160 [.agg t.enc,.one (.int .i64 tag)] (.a? [.agg (yN t tag).1.enc,.agg (yN t tag).2.enc]):=by
 refine zwC oC λo c hN hp=>?_;let⟨R,hR⟩:=oJ (yN t tag);rw[hR];unfold yN at hR;simp[Yz];apply gQ (Bi t);by_cases na:H_ t=tT;rotate_left
 .rw[aC (.inl (uM na))]at hR;subst hR;simp[na];try decide
 by_cases t1:tag<0
 .rw[aC (.inr (.inl t1))]at hR;subst hR;simp[na,t1];try decide
 by_cases t2:6<=tag
 .rw[aC (.inr (.inr t2))]at hR;subst hR;simp[na,t1,t2];try decide
 rw[aB (by simp[na];omega)]at hR;have wt:=Cn na;by_cases k0:t.d_=0
 .rw[aC k0]at hR;by_cases t5:tag=5
  .rw[aC t5]at hR;subst hR;simp[na,t1,t2,k0,t5];try decide
  .rw[aB t5]at hR;subst hR;have hw:=wI (n:=1+tag);simp[na,t1,t2,k0,t5,hw];exact⟨oD,by rw[yR]⟩
 rw[aB k0]at hR;simp[na,t1,t2,k0];refine gQ (GQ t (by have:=yT wt;omega)) ?_;simp;apply gQ (Mt _ _);generalize jl (jk t) tag=p at*
 by_cases p2:p.2=tT;rotate_left
 .rw[aC (uM p2)]at hR;subst hR;simp[p2];try decide
 rw[aB (by simp[p2])]at hR;by_cases k7:t.d_=7;rotate_left
 .rw[aC k7]at hR;subst hR;simp[p2,k7];try decide
 rw[aB (λz=>z k7)]at hR;simp[p2,k7];apply fT [.c 3 3];simp;have hkl:=yT wt;let⟨F0,hF⟩:=oJ (t.b_.filter (λk=>decide (iJ k≠tag)));rw[hF]at hR;refine fM gm hp (λx:Nat × List f_=>x.1<=lN t.b_/\lN x.2<=x.1/\x.2++(t.b_.drop x.1).filter (λk=>decide (iJ k≠tag))=F0) (λx=>Rm t tag x.1) (λx=>Rn p.1 x.2) (λx=>lN t.b_-x.1) (0,[]) [0,1,2,3,4] ⟨oC,oC,uM hF⟩ oC λ⟨j,ks⟩ ⟨i1,i2,i3⟩=>?_;unfold Yy;simp only at i1 i2 i3;simp;apply gM<;>intro h
 .have hj:j<lN t.b_:=uM h;rw[aF hj,fB]at i3;let⟨x,hx⟩:=oJ (t.b_[j]);rw[hx]at i3;have hw:=wI (n:=(j:Int)+1);simp[hj,hx];apply gQ (Mm x);by_cases q:iJ x=tag
  .rw[aB (by simp[q])]at i3;simp[q];apply fE (j+1,ks) [0,1,2,3,4] ⟨qM,qM,i3⟩ qM;simp[hw]
  .rw[aC (by simp[q])]at i3;simp[q,hj,hx];refine⟨oM,oD,?_⟩;refine fE (j+1,ks++[x]) [0,1,2,3,5] ⟨qM,by simp;omega,uM i3⟩ qM ?_;simp[hw];exact yQ ks
 .have hj:j=lN t.b_:=oI h;subst hj;rw[aS,filter_nil,bi]at i3;subst i3;have z:take (lN ks) (List.map f_.enc ks)=List.map f_.enc ks:=aD oC
  match ks,i2,hR,z with
  |[x],i2,hR,z=>
   simp only at hR;subst hR;simp;decide
  |[],i2,hR,z=>
   simp only at hR;subst hR;simp[I6];decide
  |x::y::l2,i2,hR,z=>
   simp only at hR;subst hR;have h1:¬((lN l2:Int)+1+1=1):=oM;simp[h1,I6,nH];decide
def zLo(x:D)(l:oL):Prop:=(x=.sl oK 4 (l.map f_.enc)/\lN l=2)\/∃row t,x=.sl tT 4 [row]/\D.W_ row=t.enc/\lN row=4/\l=[t]
theorem zHb(a b c d e f g h i j k l m n o:AC)(N:o_):z_ [a,b,c,d,e,f,g,h,i,j,k,l,m,n,o] 5 (N.enc.map AC.d)=a::b::c::d::e::(N.enc.map .d++[n,o]):=by rw[N.l_];try rfl
theorem zLp(a b c d e n o:AC)(N:o_):cut (a::b::c::d::e::(N.enc.map .d++[n,o])) 0 15=a::b::c::d::e::(N.enc.map .d++[n,o]):=by rw[N.l_];try rfl
theorem zKp(a b c d e n o:D)(N:o_):cut (a::b::c::d::e::(N.enc++[n,o])) 0 15=a::b::c::d::e::(N.enc++[n,o]):=by rw[N.l_];try rfl
theorem zKq(N:o_)(a b:D):A? (N.enc.map AC.d++[.d a,.d b])=sS (N.enc++[a,b]):=by
 have e:N.enc.map AC.d++[.d a,.d b]=(N.enc++[a,b]).map .d:=oC;rw[e];exact Vi _
theorem zKr(f:Nat->Nat)(N:o_)(a b:D):AC.b? f (N.enc.map AC.d++[.d a,.d b])=N.enc.map AC.d++[.d a,.d b]:=by
 have e:N.enc.map AC.d++[.d a,.d b]=(N.enc++[a,b]).map .d:=oC;rw[e];exact AC.rens_D _ _
theorem zLq(n:Nat)(N:o_)(a b:D):AC.lts n (N.enc.map AC.d++[.d a,.d b])=tT:=by
 have e:N.enc.map AC.d++[.d a,.d b]=(N.enc++[a,b]).map .d:=oC;rw[e];exact AC.lts_D _ _
def Ro{α β:Type}(f:α->β)(v:List α):take (lN v) (v.map f)=v.map f:=aD (by rw[aa];exact aJ _)
attribute [simp] zHb zLp zKp zKq zKr zLq
section
variable {L:List Tok}
theorem zEG(hL:C? L)(hl:lN L<=10000){d:Nat}{ki:PS->f_ × PS}(hk:y_ L ki)(Hk:rU L d ki)(p:PS)(h:p.L_<lN L)(hd:p.deep=d):
  ∃x,zLo x (uq L ki p).1.2/\q_ Pg 147 [.c (.ptr 0 0)] [ic L p] (.a? [.c (.d (.str (uq L ki p).1.1)),.c (.d x)]) [ic L (uq L ki p).2]:=by
 have t1:=iF hL h (s:=bs [40]);have t2:=t1.trans (kX hL t1.lt);have t3:=t2.trans (Cb hL hk _ t2.lt);have t4:=t3.trans (iF hL t3.lt (s:=bs [41]));have c1:=nM hL (bs [40]) p h hl;have c2:=zo _ t1.lt hl;have c3:=Jp hL hl Hk _ t2.lt (by rw[t2.deep,hd]);have c4:=nM hL (bs [41]) _ t3.lt hl;have c5:=Jp hL hl Hk _ t4.lt (by rw[t4.deep,hd]);have n1:=M7 (L:=L) ki (iG L (iH L (bs [40]) p)).2;have n2:=M7 (L:=L) ki (iH L (bs [41]) (rM L ki (iG L (iH L (bs [40]) p)).2).2);unfold uq;simp only;generalize iH L (bs [40]) p=p1 at*
 generalize (iG L p1).1=s1 at*
 generalize (iG L p1).2=p2 at*
 generalize (rM L ki p2).1=A at*
 generalize (rM L ki p2).2=p3 at*
 generalize iH L (bs [41]) p3=p4 at*
 generalize (rM L ki p4).1=B at*
 generalize (rM L ki p4).2=p5 at*
 have hn:C_.enc=[.int .i64 0,.str (bs []),.sl oK 1 [],.sl oK 4 []]:=rfl;rcases n1 with rfl|⟨T,rfl⟩<;>rcases n2 with rfl|⟨U,rfl⟩
 .refine⟨.sl tT 4 [[.int .i64 0,.str (bs []),.sl tT 1 [],.sl tT 4 []]],.inr ⟨_,C_,rfl,rfl,rfl,rfl⟩,?_⟩;refine Ja mD λts _e ok hb c hN hp=>?_;obtain⟨t,rfl⟩:=lK _e;simp[IQ];apply gN [0] c1;simp;apply gN [0] c2;simp;apply gN [0] c3;simp;apply gN [0] c4;simp;apply gN [0] c5;simp;apply fQ [];simp;exact fJ [0] [1]
 .refine⟨.sl oK 4 [C_.enc,U.enc],.inl ⟨rfl,rfl⟩,?_⟩;refine Ja mD λts _e ok hb c hN hp=>?_;obtain⟨t,rfl⟩:=lK _e;simp[IQ];apply gN [0] c1;simp;apply gN [0] c2;simp;apply gN [0] c3;simp;apply gN [0] c4;simp;apply gN [0] c5;simp;apply fQ [2];simp[iE];exact fH [0] [1] (by simp[hn,AV.R_])
 .refine⟨.sl tT 4 [T.enc],.inr ⟨_,T,rfl,oC,oC,rfl⟩,?_⟩;refine Ja mD λts _e ok hb c hN hp=>?_;obtain⟨t,rfl⟩:=lK _e;simp[IQ];apply gN [0] c1;simp;apply gN [0] c2;simp;apply gN [0] c3;simp;apply gN [0] c4;simp;apply gN [0] c5;simp;apply fQ [];simp;exact fJ [0] [1]
 .refine⟨.sl oK 4 [T.enc,U.enc],.inl ⟨rfl,rfl⟩,?_⟩;refine Ja mD λts _e ok hb c hN hp=>?_;obtain⟨t,rfl⟩:=lK _e;simp[IQ];apply gN [0] c1;simp;apply gN [0] c2;simp;apply gN [0] c3;simp;apply gN [0] c4;simp;apply gN [0] c5;simp;apply fQ [2];simp[iE];exact fH [0] [1] (by simp[hn,AV.R_])
abbrev mB(p:PS)(t:Nat × Nat)(b2:A_)(is:qE)(v:o5):oV:=[ic L p,.G_ t 0,b2,.box [.x_ 4 4 0 (lN is),.x_ 15 5 0 (lN v)],.arr 4 ((is.map iW.enc).map (·.map .d)),.arr 15 (v.map (·.map .d))]
abbrev mT:oZ:=[(0,.c (.ptr 0 0)),(2,.c (.ptr 2 0)),(3,.c (.ptr 3 0))]
theorem zJc(hL:C? L)(hl:lN L<=10000)(hp:c.pure)(t:Nat × Nat)(b2:A_)(hb2:b2=.box [.d (.sl tT 4 []),.d (.sl tT 15 [])])(is:qE)(p0:PS)(hd0:p0.deep=0)(h:p0.L_<lN L)(F0:qF × PS)(hF:uy L (lN L+1) [] p0=F0){g}{ms:oO}
  (h0:gy ms S mT (mB (L:=L) p0 t b2 is []))
  (hQ:∀T v,Abs.look T 0=.c (.ptr 0 0)->Abs.look T 2=.c (.ptr 2 0)->Abs.look T 3=.c (.ptr 3 0)->D.O_ v=F0.1.map P?.enc->Q (.exit 2) ⟨T,r_ (mB (L:=L) F0.2 t b2 is v),6⟩):mI Pg c QN Q g S:=by
 refine fM gm hp (λx:Nat × List P? × List oQ × PS=>uy L x.1 x.2.1 x.2.2.2=F0/\Tm L p0 x.2.2.2/\(0<x.1/\(x.2.2.2.e≠0\/lN L<x.1+x.2.2.2.L_))/\lN x.2.1+x.1<=lN L+1/\D.O_ x.2.2.1=x.2.1.map P?.enc)
  (λx=>mT) (λx=>mB (L:=L) x.2.2.2 t b2 is x.2.2.1) (λx=>x.1) (lN L+1,[],[],p0) ms ⟨hF,Tm.refl h,⟨oC,.inr qM⟩,oC,rfl⟩ h0 λ⟨n,l,v,q⟩ ⟨i1,i2,i3,i4,i5⟩=>?_
 subst hb2;unfold QN;simp only at i1 i2 i4 i5;have i3:0<n/\(q.e≠0\/lN L<n+q.L_):=i3;have hvl:lN v=lN l:=by rw[<-Qo,i5,aa]
 have _k:=i2.lt;obtain⟨n,rfl⟩:∃m,n=m+1:=⟨n-1,oM⟩
 have hg:=Cc _k;rw[uy]at i1;by_cases x:q.e=0
 .by_cases k:(U_ L q).d_=0
  .rw[aB (by simp[k])]at i1;subst i1;simp[hg,x,k];refine oG ?_;exact hQ _ v oC oC oC i5
  .rw[aC ⟨x,k⟩]at i1;have e1:=iB hL _k (s:=Dg);have e2:=e1.trans (iF hL e1.lt (s:=wU));have e3:=e2.trans (kX hL e2.lt);have e4:=e3.trans (Md hL _ e3.lt);have e5:=e4.trans (El hL (Ba hL) _ e4.lt);have e6:=e5.trans (iF hL e5.lt (s:=bs [61]));have e7:=e6.trans (Mc hL _ e6.lt);have e8:=e7.trans (iF hL e7.lt (s:=bs [59]));have c1:=kY Dg q _k hl;have c2:=nM hL wU _ e1.lt hl;have c3:=zo _ e2.lt hl;have c4:=zGc hL hl _ e3.lt (by rw[e3.deep,i2.deep,hd0]);let⟨hx,hxd,c5⟩:=zEG hL hl (Ba hL) (zHZ hL hl) _ e4.lt (by rw[e4.deep,i2.deep,hd0]);have c6:=nM hL (bs [61]) _ e5.lt hl;have c7:=zKX hL hl _ e6.lt (by rw[e6.deep,i2.deep,hd0]);have c8:=nM hL (bs [59]) _ e7.lt hl;have hg1:=Cc e1.lt;unfold uw at i1;simp only at i1;generalize (gU L Dg q).1=ex at*
   generalize (gU L Dg q).2=q1 at*
   generalize iH L wU q1=q2 at*
   generalize (iG L q2).1=nm at*
   generalize (iG L q2).2=q3 at*
   generalize (BU L q3).1=vs at*
   generalize (BU L q3).2=q4 at*
   generalize (uq L (xx L) q4).1.1=pm at*
   generalize (uq L (xx L) q4).1.2=ty at*
   generalize (uq L (xx L) q4).2=q5 at*
   generalize iH L (bs [61]) q5=q6 at*
   generalize (IU L q6).1=bd at*
   generalize (IU L q6).2=q7 at*
   have hlt8:=e8.lt;have hon:(iH L (bs [59]) q7).e≠0\/(iH L (bs [59]) q7).L_=q7.L_+1:=zJx;have hle7:=e7.le;have hle8:=e8.le;have hlen:lN L<n+1+q.L_:=i3.2.resolve_left (by simp[x]);have hn0:0<n:=oM;generalize iH L (bs [59]) q7=q8 at*
   have hon':q8.e≠0\/lN L<n+q8.L_:=by
    rcases hon with r|r
    .exact .inl r
    .exact .inr oM
   simp[hg,x,k];refine oG ?_;refine gP [0] c1 (by simp[x]) ?_;simp[hg1];refine oG ?_;refine gN [0] c2 ?_;simp;refine gN [0] c3 ?_;simp;refine gN [0] c4 ?_;simp;refine gN [0] c5 ?_;rcases hxd with⟨rfl,_J⟩|⟨row,T,rfl,hrow,hrl,rfl⟩
   .simp[_J];refine fQ [] ?_;simp;refine gN [0] c6 ?_;simp;refine gN [0] c7 ?_;simp;refine gN [0] c8 ?_;simp;refine jV ?_;rw[aB oM]at i1;refine fE (n,l++[⟨nm,ex,vs,pm,ty,bd,(U_ L q1).line,(U_ L q1).t_⟩],v++[[.str nm,.bool ex,.sl oK 5 (vs.map p?),.str pm,.sl oK 4 (ty.map f_.enc)]++bd.enc++[.int .i64 (U_ L q1).line,.int .i64 (U_ L q1).t_]],q8) [0,1,2,3,4,7] ⟨i1,i2.trans e8,⟨hn0,hon'⟩,by simp;omega,by simp[i5,P?.enc]⟩ oC ?_;simp;exact Ro _ _
   .simp;refine fQ [7] ?_;simp[iE];refine gN [0] c6 ?_;simp[iE];refine gN [0] c7 ?_;simp[iE];refine gN [0] c8 ?_;simp[iE];refine jV ?_;rw[aC oC]at i1;have hn:C_.enc=[.int .i64 0,.str (bs []),.sl oK 1 [],.sl oK 4 []]:=rfl;refine fE (n,l++[⟨nm,ex,vs,pm,[T]++[C_],bd,(U_ L q1).line,(U_ L q1).t_⟩],v++[[.str nm,.bool ex,.sl oK 5 (vs.map p?),.str pm,.sl oK 4 [row,[.int .i64 0,.str (bs []),.sl tT 1 [],.sl tT 4 []]]]++bd.enc++[.int .i64 (U_ L q1).line,.int .i64 (U_ L q1).t_]],q8) [0,1,2,3,4,8] ⟨i1,i2.trans e8,⟨hn0,hon'⟩,by simp;omega,by simp[i5,P?.enc,hrow,hn]⟩ oC ?_;simp[iE];exact Ro _ _
 .rw[aB (by simp[x])]at i1;subst i1;simp[hg,x];refine oG ?_;exact hQ _ v oC oC oC i5
def zJd(hL:C? L)(hl:lN L<=10000)(hp:c.pure)(t:Nat × Nat)(b2:A_)(hb2:b2=.box [.d (.sl tT 4 []),.d (.sl tT 15 [])])(p0:PS)(h:p0.L_<lN L)(F0:qE × PS)(hF:zm L (lN L+1) [] p0=F0){g}{ms:oO}
  (h0:gy ms S mT (mB (L:=L) p0 t b2 [] []))
  (hQ:∀T M n,Abs.look T 0=.c (.ptr 0 0)->Abs.look T 2=.c (.ptr 2 0)->Abs.look T 3=.c (.ptr 3 0)->M 0=ic L F0.2->M 1=.G_ t 0->M 2=b2->M 3=.box [.x_ 4 4 0 F0.1.length,.x_ 15 5 0 0]->M 4=.arr 4 ((F0.1.map iW.enc).map (·.map .d))->M 5=.arr 15 []->Q (.exit 0) ⟨T,M,n⟩):mI Pg c QM Q g S:=by
 refine fM gm hp (λx:Nat × List iW × PS=>zm L x.1 x.2.1 x.2.2=F0/\Tm L p0 x.2.2/\lN L<x.1+x.2.2.L_/\lN x.2.1<=x.2.2.L_)
  (λx=>mT) (λx=>mB (L:=L) x.2.2 t b2 x.2.1 []) (λx=>x.1) (lN L+1,[],p0) ms ⟨hF,Tm.refl h,qM,oC⟩ h0 λ⟨n,l,q⟩ ⟨i1,i2,i3,i4⟩=>?_
 subst hb2;unfold QM;simp only at i1 i2 i4;have i3:lN L<n+q.L_:=i3;have _k:=i2.lt;obtain⟨n,rfl⟩:∃m,n=m+1:=⟨n-1,oM⟩
 have hg:=Cc _k;rw[zm]at i1;have c1:=kY zl q _k hl;by_cases x:q.e=0
 .by_cases k:(gU L zl q).1=tT
  .rw[aC ⟨x,k⟩]at i1;simp only at i1;have e1:=iB hL _k (s:=zl);have e2:=e1.trans (kX hL e1.lt);have e3:=e2.trans (iF hL e2.lt (s:=bs [58]));have e4:=e3.trans (M9 hL (lN L+1) [] _ e3.lt);have e5:=e4.trans (iF hL e4.lt (s:=bs [59]));have c2:=zo _ e1.lt hl;have c3:=nM hL (bs [58]) _ e2.lt hl;have c4:=zDI hL hl _ e3.lt;have c5:=nM hL (bs [59]) _ e4.lt hl;have ha:=(X_ k).1;have hle:(gU L zl q).2.L_<=(iH L (bs [59]) (xJ L (lN L+1) [] (iH L (bs [58]) (iG L (gU L zl q).2).2)).2).L_:=by
    have h1:=(kX hL e1.lt).le;have h2:=(iF hL e2.lt (s:=bs [58])).le;have h3:=(M9 hL (lN L+1) [] _ e3.lt).le;have h4:=(iF hL e4.lt (s:=bs [59])).le;omega
   generalize (gU L zl q).2=q1 at*
   generalize (iG L q1).1=nm at*
   generalize (iG L q1).2=q2 at*
   generalize iH L (bs [58]) q2=q3 at*
   generalize (xJ L (lN L+1) [] q3).1=ns at*
   generalize (xJ L (lN L+1) [] q3).2=q4 at*
   generalize iH L (bs [59]) q4=q5 at*
   simp[hg,x];refine oG ?_;refine gP [0] c1 (by simp[x]) ?_;simp[k];refine gN [0] c2 ?_;simp;refine gN [0] c3 ?_;simp;refine gN [0] c4 ?_;simp;refine gN [0] c5 ?_;simp;refine jV ?_;refine fE (n,l++[⟨nm,ns,(U_ L q).line,(U_ L q).t_⟩],q5) [0,1,2,3,7,5] ⟨i1,i2.trans e5,qM,by simp;omega⟩ oC ?_;simp[iW.enc];exact Ro _ _
  .rw[aB (λz=>k z.2)]at i1;subst i1;rw[kH k]at c1;rw[aT]at k;simp[hg,x];refine oG ?_;refine gP [0] c1 (by simp[x]) ?_;simp[k];refine hQ _ _ _ oC oC oC oC oC oC oC oC oC
 .rw[aB (by simp[x])]at i1;subst i1;simp[hg,x];refine hQ _ _ _ oC oC oC oC oC oC oC oC oC
def zCi(hL:C? L)(hl:lN L<=10000)(p:PS)(h:p.L_<lN L)(hd:p.deep=0):
  q_ Pg 92 [.c (.ptr 0 0)] [ic L p] (.ag ((Ej L p).1.enc.map .d)) [ic L (Ej L p).2]:=by
 refine zxl mD λts _e ok hb c hN hp=>?_;obtain⟨t,rfl⟩:=lK _e;have k1:=Jr hL (lN L+1) [] _ h;have k2:=Me hL (lN L+1) [] _ k1.lt;let⟨I0,hI0⟩:∃F0,zm L (lN L+1) [] p=F0:=⟨_,rfl⟩
 unfold YZ Ej;simp only;rw[hI0]at k1 k2⊢;let⟨D0,hD0⟩:∃F0,uy L (lN L+1) [] I0.2=F0:=⟨_,rfl⟩
 rw[hD0];simp;apply fT [.c 3 0,.c 3 1];simp;refine zJd hL hl hp t _ rfl p h I0 hI0 (ms:=[0,1,2,3,4,5]) oC λT M n t0 t2 t3 m0 m1 m2 m3 m4 m5=>?_;simp;refine zJc hL hl hp t _ rfl I0.1 I0.2 (by rw[k1.deep,hd]) k1.lt D0 hD0 (ms:=[0,1,2,3,4,5]) (by simp[t0,t2,t3,m0,m1,m2,m3,m4,m5]) λT v t0 t2 t3 hv=>?_;simp[t0,t2,t3];apply fQ [4,5];have z:take I0.1.length (List.map iW.enc I0.1)=List.map iW.enc I0.1:=aD oC;simp[iE,t2,z, -map_map];exact fH [0] [1] (by simp[iE,X?.enc,hv, -map_map])
end
def zGl{l:o9}(h:(x? l).e=0):(x? l).d_≠0:=by
 cases l with
 |nil=>simp[x?,kK]at h
 |cons c r=>
  rw[x?]at h⊢;repeat' split
  all_goals simp_all[kK]
  all_goals (split<;>simp)
def zAh:∀(n:Nat) (l:List UInt8) (a b:Int) (ts:List Tok),lN l<n->lN ts<=8192->(∀t,t∈ts->t.d_≠0)->(pM n l a b ts).2.e=0->
 ∃us x,(pM n l a b ts).1=us++[x]/\x.d_=0/\(∀t,t∈us->t.d_≠0)/\lN us<=8192
|0,l,_,_,_,h,_,_,_=>by omega
| n+1,l,a,b,ts,h,hl,hk,he=>by
 rw[zz9]at he⊢;by_cases q:l.drop (k? oK l)=[]
 .rw[aC q];exact⟨ts,_,rfl,rfl,hk,hl⟩
 rw[aB q]at he⊢;by_cases q2:(if(x? (l.drop (k? oK l))).e=0/\lN ts=8192 then(19:Int)else(x? (l.drop (k? oK l))).e)≠0
 .rw[aC q2]at he;exact absurd he q2
 rw[aB q2]at he⊢;have q3:¬((x? (l.drop (k? oK l))).e=0/\lN ts=8192):=λz=>by rw[aC z]at q2;exact q2 oD
 rw[aB q3]at q2;have e0:(x? (l.drop (k? oK l))).e=0:=bH λz=>q2 z;have htl:=zz6 e0;refine zAh n _ _ _ _ ?_ ?_ ?_ he
 .rw[dN,dN]at*;omega
 .have:lN ts≠8192:=λz=>q3 ⟨e0,z⟩;simp;omega
 .intro t ht;rcases aL.1 ht with ht|ht
  .exact hk t ht
  .simp at ht;subst ht;exact zGl e0
def NA{s:fD}(h:(kE s).2.e=0):C? (kE s).1/\(kE s).1.length<=10000:=by
 unfold kE at h⊢;split
 next q=>rw[aC q]at h;simp at h
 rename_i q;rw[aB q]at h;let⟨us,x,e,hx,hu,hl⟩:=zAh (s.size+1) s.data.toList 1 1 [] (by rw[xK];omega) oC oC h;rw[e];refine⟨⟨oC,λi hi hk=>?_⟩,by simp;omega⟩;simp only[aV,length_singleton]at hi⊢;rcases aY i (lN us) with h|h
 .omega
 .have:i=lN us:=oM;subst this;exfalso;apply hk;rw[aH,ay (aJ _)];simpa using hx
def zGm(s:fD):q_ Pg 91 [.c (.d (.str s))] [] (.a? [.c (.ptr 0 0),.ag ((kE s).2.enc.map .d)]) [ic (kE s).1 ps0]:=by
 refine zxm ⟨oC,oC,oC,oC,oC,by simp[l?.enc];rfl,oC⟩ λts _e ok hb c hN hp=>?_;have _e:ts=[]:=aW.1 _e;subst _e;simp[Y1];apply gQ (zJT s);simp;exact⟨oD,fK [2] [] (by simp[ps0])⟩
def zIG{L:sF}(hL:C? L)(hl:lN L<=10000)(p:PS)(h:p.L_<lN L):q_ Pg 93 [.c (.ptr 0 0)] [ic L p] (.ag ((⟨0,(xM L p).line,(xM L p).t_,(xM L p).e⟩:l?).enc.map .d)) [ic L (xM L p)]:=by
 refine zD7 ⟨oC,oC,oC,oC,oC,by simp[l?.enc],oC⟩ λts _e ok hb c hN hp=>?_;obtain⟨t,rfl⟩:=lK _e;have hg:=Cc h;have hf:=Jo (L:=L) 7 p h;unfold Y0 xM;generalize U_ L p=T at*
 by_cases h0:p.e=0<;>by_cases h1:T.d_=0
 .simp[hg,h0,h1];exact⟨oD,oD,fK [0] [1] (by simp[l?.enc,h0,h1])⟩
 .simp[hg,h0,h1];refine oG ?_;refine gP [0] hf (by simp[h0]) ?_;simp;exact⟨oD,fK [0] [1] (by simp[l?.enc,h0,h1])⟩
 all_goals
  simp[hg,h0,h1];exact⟨oD,oD,fK [0] [1] (by simp[l?.enc,h0,h1])⟩
@[simp] theorem zM9(d:l?):cut d.enc 0 4=d.enc:=rfl
@[simp] theorem zMs(d:l?):cut (d.enc.map AC.d) 0 4=d.enc.map .d:=rfl
@[simp] theorem l?.enc_3(d:l?):d.enc[3]?=sS (.int .i64 d.e):=rfl
@[simp] theorem l?.enc_g3(d:l?)(h:3<lN d.enc):d.enc[3]=.int .i64 d.e:=rfl
@[simp] theorem l?.er_map(d:l?):d.enc.map D.er=d.enc:=rfl
@[simp] theorem X?.er_map(d:X?):d.enc.map D.er=d.enc:=rfl
@[simp] theorem zNa(d:X?):cut d.enc 0 2=d.enc:=rfl
@[simp] theorem zMt(d:X?):cut (d.enc.map AC.d) 0 2=d.enc.map .d:=rfl
def zGn(s:fD):h_ Pg 56 [.one (.str s)] (.a? [.agg (tN s).1.enc,.agg (tN s).2.enc]):=by
 refine zzq oC λo c' hN hp=>?_;have hb:=zGm s;have hk:=NA (s:=s);let⟨F0,_y⟩:=oJ (tN s);rw[_y];unfold tN at _y;simp only at _y;generalize (kE s).1=L at*
 generalize (kE s).2=d at*
 simp[Y2];apply gN [] hb;simp;by_cases h0:d.e=0;rotate_left
 .rw[aC h0]at _y;subst _y;simp[h0];exact⟨oD,rfl⟩
 rw[aB (by simp[h0])]at _y;let⟨hL,hl⟩:=hk h0;have c1:=zCi hL hl ps0 hL.pos rfl;have t1:=zDH hL ps0 hL.pos;generalize (Ej L ps0).1=M at*
 generalize (Ej L ps0).2=p at*
 have c2:=zIG hL hl p t1.lt;generalize xM L p=q at*
 simp[h0];apply gP [2] c1 (by simp[ps0]);simp;apply gN [2] c2;simp;by_cases h1:q.e=0
 .rw[aB (by simp[h1])]at _y;subst _y;simp[h1];decide
 .rw[aC h1]at _y;subst _y;simp[h1];exact⟨oD,rfl⟩
end Go.Gr
namespace Go.Abs
def q_.frzV{P:Program}{f:FuncId}{args:oo}{bs:oV}{ds:sQ}{V:DV}(hp:h_ P f ds V)(hd:∀(h h':PH) (v:Value),jJ h V v->jJ h' V v)(e:wQ (r_ bs) args=sS ds)
  (h1:(bs.all λb=>b.tag !=0)=tT) (h2:(bs.all λb=>b.lv (live bs))=tT) (h3:V.av.lv (live bs)=tT):q_ P f args bs V.av bs:=by
 refine⟨hp.1,aJ _,Eh h1,h3,λb hb=>ai.1 h2 b hb,λh ρ w _o H hG hS r=>?_⟩;have k:=Lv (n:=0) H (λ_ _ _ _=>eF _) args ds _o e r;refine(hp.2 (vR h 0 w.heap) w _o (Lt H) (hG.mono (II H)) trivial k).mono λe w' hh=>?_;let⟨vC,h',e1,e2,e3,e4,e5,e6,e7,e8⟩:=hh;have hx:∀B,B<w.heap.size->w'.heap[B]?=w.heap[B]?:=e6;have hP:∀B o,h B=sS o->w'.heap[B]?=sS o:=λB o he=>by
  rw[e6 B (H.lt he)];exact H.pers B o he
 exact⟨vC,h,ρ,e1,⟨λ_ _ he=>he,λB hB _=>rfl,e5,λB hB _=>e6 B hB,λb p hp hr=>.inr ⟨b,p,hp,hr,rfl⟩⟩,H.grow (λ_ _ he=>he) hP (λB hB _=>⟨e6 B hB,rfl⟩),e7,jJ.av (hd _ _ _ e8),λ_ _=>rfl⟩
end Go.Abs
namespace Go.Gr
open Go.Abs Go.Proofs
@[simp] theorem iO.F_(e:iO):lN e.enc=3:=rfl
@[simp] theorem iO.enc_0(e:iO):e.enc[0]?=sS (.str e.name):=rfl
@[simp] theorem iO.enc_1(e:iO):e.enc[1]?=sS (.int .i64 e.module):=rfl
@[simp] theorem iO.enc_2(e:iO):e.enc[2]?=sS (.int .i64 e.decl):=rfl
@[simp] theorem iO.enc_g0(e:iO)(h:0<lN e.enc):e.enc[0]=.str e.name:=rfl
@[simp] theorem iO.cut_enc(e:iO):cut e.enc 0 3=e.enc:=rfl
@[simp] theorem iO.cut_map(e:iO):cut (e.enc.map AC.d) 0 3=e.enc.map .d:=rfl
@[simp] theorem iO.er_map(e:iO):e.enc.map D.er=e.enc:=rfl
@[simp] theorem X?.enc_0(m:X?):m.enc[0]?=sS (.sl oK 4 (m.z?.map iW.enc)):=rfl
@[simp] theorem X?.enc_1(m:X?):m.enc[1]?=sS (.sl oK 15 (m.T_.map P?.enc)):=rfl
@[simp] theorem X?.enc_g0(m:X?)(h:0<lN m.enc):m.enc[0]=.sl oK 4 (m.z?.map iW.enc):=rfl
@[simp] theorem X?.enc_g1(m:X?)(h:1<lN m.enc):m.enc[1]=.sl oK 15 (m.T_.map P?.enc):=rfl
@[simp] theorem P?.enc_0(d:P?):d.enc[0]?=sS (.str d.name):=rfl
@[simp] theorem P?.enc_1(d:P?):d.enc[1]?=sS (.bool d.exp):=rfl
@[simp] theorem P?.enc_2(d:P?):d.enc[2]?=sS (.sl oK 5 (d.vars.map p?)):=rfl
@[simp] theorem P?.enc_3(d:P?):d.enc[3]?=sS (.str d.param):=rfl
@[simp] theorem P?.enc_4(d:P?):d.enc[4]?=sS (.sl oK 4 (d.types.map f_.enc)):=rfl
theorem P?.enc_13(d:P?):d.enc[13]?=sS (.int .i64 d.line):=by unfold P?.enc;rw[o_.l_];try rfl
theorem P?.enc_14(d:P?):d.enc[14]?=sS (.int .i64 d.t_):=by unfold P?.enc;rw[o_.l_];try rfl
attribute [simp] P?.enc_13 P?.enc_14
@[simp] theorem P?.enc_g0(d:P?)(h:0<lN d.enc):d.enc[0]=.str d.name:=rfl
@[simp] theorem P?.enc_g1(d:P?)(h:1<lN d.enc):d.enc[1]=.bool d.exp:=rfl
@[simp] theorem P?.enc_g2(d:P?)(h:2<lN d.enc):d.enc[2]=.sl oK 5 (d.vars.map p?):=rfl
@[simp] theorem P?.enc_g13(d:P?)(h:13<lN d.enc):d.enc[13]=.int .i64 d.line:=by have:=d.enc_13;rw[aA h]at this;exact bu this
@[simp] theorem P?.enc_g14(d:P?)(h:14<lN d.enc):d.enc[14]=.int .i64 d.t_:=by have:=d.enc_14;rw[aA h]at this;exact bu this
@[simp] theorem iW.enc_0(x:iW):x.enc[0]?=sS (.str x.from_):=rfl
@[simp] theorem iW.enc_1(x:iW):x.enc[1]?=sS (.sl oK 1 (encS x.a_)):=rfl
@[simp] theorem iW.enc_2(x:iW):x.enc[2]?=sS (.int .i64 x.line):=rfl
@[simp] theorem iW.enc_3(x:iW):x.enc[3]?=sS (.int .i64 x.t_):=rfl
@[simp] theorem iW.enc_g0(x:iW)(h:0<lN x.enc):x.enc[0]=.str x.from_:=rfl
@[simp] theorem iW.enc_g1(x:iW)(h:1<lN x.enc):x.enc[1]=.sl oK 1 (encS x.a_):=rfl
@[simp] theorem iW.enc_g2(x:iW)(h:2<lN x.enc):x.enc[2]=.int .i64 x.line:=rfl
@[simp] theorem iW.enc_g3(x:iW)(h:3<lN x.enc):x.enc[3]=.int .i64 x.t_:=rfl
@[simp] theorem iW.cut_enc(x:iW):cut x.enc 0 4=x.enc:=rfl
@[simp] theorem iW.cut_map(x:iW):cut (x.enc.map AC.d) 0 4=x.enc.map .d:=rfl
def uJ(s:sI):oQ:=[.sl oK 3 (s.map iO.enc)]
theorem f?.l_(l:f?):l.enc=[.sl oK 1 (encS l.a_),.sl oK 2 (l.u_.map X?.enc),.sl oK 1 (l.scopes.map uJ),.str l.main.name,.int .i64 l.main.module,.int .i64 l.main.decl]:=rfl
@[simp] theorem f?.F_(l:f?):lN l.enc=6:=rfl
@[simp] theorem f?.enc_0(l:f?):l.enc[0]?=sS (.sl oK 1 (encS l.a_)):=rfl
@[simp] theorem f?.enc_1(l:f?):l.enc[1]?=sS (.sl oK 2 (l.u_.map X?.enc)):=rfl
@[simp] theorem f?.enc_2(l:f?):l.enc[2]?=sS (.sl oK 1 (l.scopes.map uJ)):=rfl
@[simp] theorem f?.enc_g0(l:f?)(h:0<lN l.enc):l.enc[0]=.sl oK 1 (encS l.a_):=rfl
@[simp] theorem f?.enc_g1(l:f?)(h:1<lN l.enc):l.enc[1]=.sl oK 2 (l.u_.map X?.enc):=rfl
@[simp] theorem f?.enc_g2(l:f?)(h:2<lN l.enc):l.enc[2]=.sl oK 1 (l.scopes.map uJ):=rfl
@[simp] theorem f?.cut_enc(l:f?):cut l.enc 0 6=l.enc:=rfl
@[simp] theorem f?.cut_map(l:f?):cut (l.enc.map AC.d) 0 6=l.enc.map .d:=rfl
@[simp] theorem f?.er_map(l:f?):l.enc.map D.er=l.enc:=rfl
def KP{α:Type}(q:α->Bool):∀(j:Nat) (l:List α),fi q j l= -1\/((j:Int)<=fi q j l/\fi q j l<j+lN l)
|j,[]=>.inl rfl
| j,x::l=>by
 unfold fi;split
 .exact .inr ⟨Int.le_refl _,by simp;omega⟩
 .rcases KP q (j+1) l with h|h
  .exact .inl h
  .exact .inr ⟨oM,by simp;omega⟩
def KQ(a_:oN)(s:fD):h_ Pg 37 [.one (.sl oK 1 (encS a_)),.one (.str s)] (.one (.int .i64 (iX a_ s))):=by
 refine zwD oC λo c hN hp=>?_;have hl:lN a_<=zaf:=by have:=o.1;simp only[DV.ok,D.ok,Jb]at this;exact this.1
 unfold zaf at hl;unfold ZB iX;let⟨R,hR⟩:=oJ (fi (λn=>decide (n=s)) 0 a_);rw[hR];simp;refine fM gm hp (λj:Nat=>j<=lN a_/\fi (λn=>decide (n=s)) j (a_.drop j)=R) (λj=>[(5,.c (.d (.int .i64 j))),(1,.c (.d (.str s))),(0,.c (.d (.sl oK 1 (encS a_))))]) (λ_=>[]) (λj=>lN a_-j) 0 [] ⟨oC,uM hR⟩ oC λj ⟨h1,h2⟩=>?_;simp[ZA];apply gM<;>intro h
 .have hj:j<lN a_:=uM h;rw[aF hj,fi]at h2;by_cases q:a_[j]=s
  .rw[aC (uM q)]at h2;subst h2;simp[hj,q]
  .rw[aB (uM q)]at h2;simp[hj,q];apply fE (j+1) [] ⟨oM,h2⟩ oM;simp;exact wI
 .have hj:j=lN a_:=oI h;subst hj;rw[aS,fi]at h2;subst h2;simp
def zAW(m:X?)(s:fD)(hm:lN m.T_<=100000):h_ Pg 38 [.agg m.enc,.one (.str s)] (.one (.int .i64 (wV m s))):=by
 refine zBv oC λo c hN hp=>?_;unfold ZI wV;let⟨R,hR⟩:=oJ (fi (λd:P?=>decide (d.name=s)) 0 m.T_);rw[hR];simp;refine fM gm hp (λj:Nat=>j<=lN m.T_/\fi (λd:P?=>decide (d.name=s)) j (m.T_.drop j)=R) (λj=>[(5,.c (.d (.int .i64 j))),(2,.c (.d (.rp m.enc 0))),(1,.c (.d (.str s)))]) (λ_=>[]) (λj=>lN m.T_-j) 0 [] ⟨oC,uM hR⟩ oC λj ⟨h1,h2⟩=>?_;simp[ZH];apply gM<;>intro h
 .have hj:j<lN m.T_:=uM h;rw[aF hj,fi]at h2;by_cases q:m.T_[j].name=s
  .rw[aC (uM q)]at h2;subst h2;simp[hj,q]
  .rw[aB (uM q)]at h2;simp[hj,q];apply fE (j+1) [] ⟨oM,h2⟩ oM;simp;exact wI
 .have hj:j=lN m.T_:=oI h;subst hj;rw[aS,fi]at h2;subst h2;simp
abbrev Bj(r:iO × Bool):DV:=.a? [.agg r.1.enc,.one (.bool r.2)]
def zAX(l:sI)(s:fD):h_ Pg 58 [.one (.sl oK 3 (l.map iO.enc)),.one (.str s)] (Bj (uF l s)):=by
 refine zBu oC λo c hN hp=>?_;have hl:lN l<=zaf:=by have:=o.1;simp only[DV.ok,D.ok,aa]at this;exact this.1
 unfold zaf at hl;let⟨R,hR⟩:=oJ (uF l s);rw[hR];simp[ZG];refine fM gm hp (λj:Nat=>j<=lN l/\uF (l.drop j) s=R) (λj=>[(6,.c (.d (.int .i64 j))),(4,.c (.ptr 0 0)),(1,.c (.d (.str s))),(0,.c (.d (.sl oK 3 (l.map iO.enc))))]) (λ_=>[.box [.d (.str (bs [])),.d (.int .i64 0),.d (.int .i64 0)]]) (λj=>lN l-j) 0 [0] ⟨oC,uM hR⟩ oC λj ⟨h1,h2⟩=>?_;simp[ZF];apply gM<;>intro h
 .have hj:j<lN l:=uM h;rw[aF hj,uF]at h2;by_cases q:l[j].name=s
  .rw[aC q]at h2;subst h2;simp[hj,q]
  .rw[aB q]at h2;simp[hj,q];apply fE (j+1) [0] ⟨oM,h2⟩ oM;simp;exact wI
 .have hj:j=lN l:=oI h;subst hj;rw[aS,uF]at h2;subst h2;simp;rfl
def zFe(r:iO × Bool):∀(h h':PH) (v:Value),jJ h (Bj r) v->jJ h' (Bj r) v:=λh h' v q=>by
 simp only[Bj,jJ]at q⊢;let⟨vs,e,r⟩:=q;refine⟨vs,e,?_⟩;rcases vs with _|⟨v1,_|⟨v2,vs⟩⟩
 .simp[il]at r
 .simp[il]at r
 .simp only[il]at r⊢;refine⟨?_,by simpa[jJ,RepD]using r.2.1,r.2.2⟩;have r1:=r.1;simp only[jJ]at r1⊢;let⟨us,e1,e2,e3⟩:=r1;refine⟨us,e1,e2,?_⟩;rcases us with _|⟨u1,_|⟨u2,_|⟨u3,us⟩⟩⟩
  .simp at e2
  .simp at e2
  .simp at e2
  .simpa[iO.enc,RepL,RepD]using e3
def zyy(l:sI)(s:fD):q_ Pg 58 [.c (.x_ 3 0 0 (lN l)),.c (.d (.str s))] [.arr 3 ((l.map iO.enc).map (·.map .d))] (.a? [.ag ((uF l s).1.enc.map .d),.c (.d (.bool (uF l s).2))]) [.arr 3 ((l.map iO.enc).map (·.map .d))]:=by
 have:=q_.frzV (bs:=[.arr 3 ((l.map iO.enc).map (·.map .d))]) (args:=[.c (.x_ 3 0 0 (lN l)),.c (.d (.str s))]) (zAX l s) (zFe _) (by simp[nH]) oC oC (by simp[iO.enc]);simpa[Bj,DV.av,DV.avs]using this
def zCL(a_:oN)(s:fD):q_ Pg 37 [.c (.x_ 1 0 0 (lN a_)),.c (.d (.str s))] [.arr 1 ((encS a_).map (·.map .d))] (.c (.d (.int .i64 (iX a_ s)))) [.arr 1 ((encS a_).map (·.map .d))]:=
 q_.frzI (KQ a_ s) (by simp[nH,aD]) oC oC
theorem zJs(d:l?)(i:Int):put (d.enc.map AC.d) 0 [.d (.int .i64 i)]=(⟨i,d.line,d.t_,d.e⟩:l?).enc.map .d:=rfl
def jg(s:fD × fD):oQ:=[.str s.1,.str s.2]
@[simp] theorem zKO(s:fD × fD):(jg s).length=2:=rfl
@[simp] theorem zND(s:fD × fD):(jg s)[0]?=sS (.str s.1):=rfl
@[simp] theorem zNE(s:fD × fD):(jg s)[1]?=sS (.str s.2):=rfl
@[simp] theorem zNh(s:fD × fD)(h:0<(jg s).length):(jg s)[0]=.str s.1:=rfl
@[simp] theorem zNi(s:fD × fD)(h:1<(jg s).length):(jg s)[1]=.str s.2:=rfl
def Bl(x:oN × List X?):f?:=⟨x.1,x.2,[],Dj⟩
abbrev lkZ:A_:=.box [.d (.sl tT 1 []),.d (.sl tT 2 []),.d (.sl tT 1 []),.d (.str (bs [])),.d (.int .i64 0),.d (.int .i64 0)]
abbrev Rp(l:ow)(i nb:Nat):oZ:=[(6,.c (.d (.int .i64 i))),(5,.c (.x_ 4 4 0 nb)),(4,.c (.ptr 1 0)),(2,.c (.ptr 0 0)),(0,.c (.d (.sl oK 2 (l.map jg))))]
abbrev kg(bad:sW):A_:=.arr 4 ((bad.map l?.enc).map (·.map .d))
abbrev Rq(ns:oN)(ms:sP)(bad:sW):oV:=[lkZ,.box [.x_ 1 2 0 (lN ns),.x_ 2 3 0 (lN ms),.d (.sl tT 1 []),.d (.str (bs [])),.d (.int .i64 0),.d (.int .i64 0)],.arr 1 ((encS ns).map (·.map .d)),.arr 2 ((ms.map X?.enc).map (·.map .d)),kg bad]
def zHz(l:ow):h_ Pg 34 [.one (.sl oK 2 (l.map jg))] (.a? [.agg (Bl (xN l).1).enc,.one (.sl oK 4 ((xN l).2.map l?.enc))]):=by
 refine zza oC λo c hN hp=>?_;let⟨R,hR⟩:=oJ (xN l);rw[hR];unfold xN at hR;unfold ZE;by_cases h16:16<lN l
 .have h16':(16:Int)<lN l:=oM;rw[aC h16]at hR;subst hR;simp[h16'];exact⟨rfl,rfl⟩
 have h16':¬(16:Int)<lN l:=oM;rw[aB h16]at hR;simp[h16,h16'];refine fT [.c 1 0,.c 1 1,.t 5] ?_;simp;refine fM gm hp (λx:Nat × List fD × List X? × List l?=>x.1<=lN l/\lN x.2.1=x.1/\lN x.2.2.1=x.1/\lN x.2.2.2<=x.1/\u6 (l.drop x.1) x.1 x.2.1 x.2.2.1 x.2.2.2=R) (λx=>Rp l x.1 (lN x.2.2.2)) (λx=>Rq x.2.1 x.2.2.1 x.2.2.2) (λx=>lN l-x.1) (0,[],[],[]) [0,1,2,3,4] ⟨oC,rfl,rfl,oC,uM hR⟩ (by simp[encS]) λ⟨i,ns,ms,bad⟩ ⟨i1,i2,i3,i4,i5⟩=>?_;unfold ZC;simp only at i1 i2 i3 i4 i5;simp;apply gM<;>intro h
 .have hi:i<lN l:=uM h;let⟨s,hs⟩:=oJ (l[i]);rw[aF hi,hs,u6]at i5;have hw:=wI (n:=(i:Int)+1);have hmz:=zCL ns s.1;simp[hi,hs];refine gQ (zAV s.1) ?_;simp[hi,hs];refine gQ (zGn s.2) ?_;generalize tN s.2=m at*
  simp[hi,hs];refine gN [2] hmz ?_;generalize iX ns s.1=z at*
  simp[hi,hs];refine⟨oD,oM,oD,oM,?_⟩;by_cases n1:mP s.1=tT;rotate_left
  .rw[aC (uM n1)]at i5;simp[n1];refine jV ?_;refine fE (i+1,ns++[s.1],ms++[m.1],bad++[⟨i,1,1,10⟩]) [0,1,7,8,9] ⟨qM,by simp[i2],by simp[i3],by simp;omega,i5⟩ qM ?_;simp[hw,l?.enc];exact⟨aD oC,nH _ _,nH _ _⟩
  rw[aB (uM n1)]at i5;by_cases z1:0<=z
  .rw[aC z1]at i5;simp[n1,z1];refine jV ?_;refine fE (i+1,ns++[s.1],ms++[m.1],bad++[⟨i,1,1,8⟩]) [0,1,7,8,9] ⟨qM,by simp[i2],by simp[i3],by simp;omega,i5⟩ qM ?_;simp[hw,l?.enc];exact⟨aD oC,nH _ _,nH _ _⟩
  rw[aB z1]at i5;by_cases e0:m.2.e=0
  .rw[aB (by simp[e0])]at i5;simp[n1,z1,e0];refine fE (i+1,ns++[s.1],ms++[m.1],bad) [0,1,7,8,4] ⟨qM,by simp[i2],by simp[i3],qM,i5⟩ qM ?_;simp[hw,l?.enc];exact⟨aD oC,nH _ _⟩
  .rw[aC e0]at i5;simp[n1,z1,e0,zJs];refine jV ?_;refine fE (i+1,ns++[s.1],ms++[m.1],bad++[⟨i,m.2.line,m.2.t_,m.2.e⟩]) [0,1,7,8,9] ⟨qM,by simp[i2],by simp[i3],by simp;omega,i5⟩ qM ?_;simp[hw];exact⟨aD oC,nH _ _,nH _ _⟩
 .have hi:i=lN l:=oI h;subst hi;rw[aS,u6]at i5;subst i5;simp[nH,Bl,f?.l_];exact⟨aD oC,rfl,rfl,rfl⟩
end Go.Gr
