/- Of ours. -/
import Derived.Test.YtlfjlokfciejnaaGreatJ12
set_option maxRecDepth 20000
set_option maxHeartbeats 4000000
set_option linter.unusedVariables false
set_option linter.unusedSectionVars false
set_option linter.unusedSimpArgs false
set_option linter.defProp false
set_option linter.unnecessarySimpa false
open List renaming length->lN
open Bool renaming true->tT,false->oK
open Option renaming some->sS,none->nN
namespace Go.Gr
open Go.Abs Go.Proofs List
variable {x:Int}{l:List Int}
def lS(l:oW)(x:Int):oW:=if x∈l then l else uO x l
def Tv:∀(l:List Int) (k:Nat),k<=lN l->(∀y,y∈l.take k->y<x)->(∀h:k<lN l,x<=l[k])->uO x l=l.take k++x::l.drop k
|[],k,hk,h1,h2=>by
 have:k=0:=uM hk;subst this;rfl
|y::l,0,hk,h1,h2=>by
 have:=h2 oC;rw[uO,aC (uM this)];try rfl
|y::l,k+1,hk,h1,h2=>by
 have hy:y<x:=h1 y oC;rw[uO,aB oM,Tv l k (uM hk) (λz hz=>h1 z (by simp[hz])) (λh=>h2 (uM h))];try rfl
def zF7{l:oW}{y:Int}:y∈lS l x↔y∈l\/y=x:=by
 unfold lS;split
 next h=>
  exact⟨.inl,λh'=>h'.elim id λe=>e▸h⟩
 .rw[(Kh x l).mem_iff,aM];exact Or.comm
def zrH{l:oW}(h:l.Pairwise (· < ·)):(lS l x).Pairwise (· < ·):=by
 unfold lS;split
 .exact h
 next q=>
  exact Tc x l h q
def zwH(l:oW)(x:Int):(lS l x).length<=lN l+1:=by
 unfold lS;split
 .omega
 .have:=(Kh x l).length_eq;simp only[length_cons]at this;omega
def pW(l r:oW):oW:=r.foldl lS l
def Nh(l a b:oW):pW l (a++b)=pW (pW l a) b:=by simp[pW]
@[simp] theorem Il(l:oW):pW l []=l:=rfl
theorem zuw:∀{r l:oW} {y:Int},y∈pW l r↔y∈l\/y∈r
|[],l,y=>by simp[pW]
|x::r,l,y=>by
 have:pW l (x::r)=pW (lS l x) r:=rfl;rw[this,zuw,zF7,aM,or_assoc]
def Ni:∀{r l:List Int},l.Pairwise (· < ·)->(pW l r).Pairwise (· < ·)
|[],l,h=>h
|x::r,l,h=>Ni (r:=r) (zrH h)
theorem Tw:∀(r l:oW),(pW l r).length<=lN l+lN r
|[],l=>aJ _
|x::r,l=>by
 have h1:=Tw r (lS l x);have h2:=zwH l x;have:pW l (x::r)=pW (lS l x) r:=rfl;rw[this,length_cons];omega
def zBx{l k:oW}(h1:l.Pairwise (· < ·))(h2:k.Pairwise (· < ·))(h:∀x,x∈l↔x∈k):l=k:=
 List.Perm.eq_of_pairwise (le:=(· < ·)) (λa b _ _ p q=>by omega) h1 h2 ((perm_ext_iff_of_nodup (h1.imp λh e=>by omega) (h2.imp λh e=>by omega)).2 h)
def zBy(c:n_)(b:Int):pW [] (iQ c b)=yA c b:=
 zBx (Ni oC) (Tp c b) λx=>by rw[zuw,Ii];simp
def yY(t:D_)(n:Int):Int:=if n∈t.k_ then qp n t.k_ 0 else n-t.deep+lN t.k_
def zux{t:D_}{D:Nat}(hD:t.deep=D)(hc:∀x,x∈t.k_->0<=x/\x<D){n:Int}(h:n∈t.k_\/(D:Int)<=n):yY t n=lZ t n:=by
 unfold yY lZ;by_cases q:n∈t.k_
 .have:=hc n q;rw[aC q,aB oM]
 .rw[aB q,aC (by rcases h with h|h;exact absurd h q;omega)]
abbrev Tx(h:Nat)(l:ou):oV:=[.box [.x_ 11 1 0 (lN l),.d (.int .i64 h)],xX l]
abbrev Tz(h:Nat)(l:ou):oV:=[.box [.x_ 11 2 0 (lN l),.d (.int .i64 h)],.dead,xX l]
def zrI:∀(l:List Int) (i j:Nat) (h:j<lN l),x∉l.take j->l[j]=x->qp x l i=i+j
|y::l,i,0,h,h1,h2=>by
 rw[qp,aC (uM h2.symm)];simp
|y::l,i,j+1,h,h1,h2=>by
 simp only[take_succ_cons,aM,d9]at h1;rw[qp,aB h1.1,zrI l (i+1) j (uM h) h1.2 (uM h2)];omega
def zrJ(t:D_)(h:Nat)(l:ou)(hh:h<lN l)(ht:l[h]=t)(n:Int)(hd:0<=t.deep/\t.deep<=1000000000)(hn:0<=n/\n<=2000000000)(hl:lN t.k_<=1000000000):
  q_ Pg 45 [.c (.ptr 0 0),.c (.d (.int .i64 n))] (Tx h l) (.c (.d (.int .i64 (yY t n)))) (Tx h l):=by
 refine zon kW λts _e ok hbk cx hN hp=>?_;obtain⟨u,v,rfl⟩:=Rw _e;let⟨R,hR⟩:=oJ (yY t n);rw[hR];unfold yY at hR;unfold zhJ;simp[hh,ht];refine oG ?_;refine fM gm hp (λj:Nat=>j<=lN t.k_/\n∉t.k_.take j) (λj=>[(6,.c (.d (.int .i64 j))),(5,.c (.ptr 4 0)),(1,.c (.d (.int .i64 n)))]) (λ_=>[.box [.x_ 11 1 0 (lN l),.d (.int .i64 h)],xX l,.G_ u 0,.G_ v 1,.box (t.enc.map .d)]) (λj=>lN t.k_-j) 0 [0,1,2,3,4] oC oC λj ⟨i1,i2⟩=>?_;unfold zgi;simp;apply gM<;>intro h
 .have hj:j<lN t.k_:=by simpa[encI]using h
  have hw:=wI (n:=(j:Int)+1);let⟨d,hd⟩:=oJ (t.k_[j]);by_cases e:d=n
  .have hm:n∈t.k_:=by rw[<-e,<-hd];exact aO hj
   have hi:=zrI t.k_ 0 j hj i2 (by rw[hd];exact e);rw[aC hm,hi]at hR;subst hR;simp[hj,hd,e,encI];exact fJ [0,1] [2,3]
  .have hm:n∉t.k_.take (j+1):=by
    rw[aN hj,hd];simp only[aL,aK,d9];exact⟨i2,λz=>e z.symm⟩
   simp[hj,hd,e,encI];refine fE (j+1) [0,1,2,3,4] ⟨oM,hm⟩ oM ?_;simp[hw,encI]
 .have hj:j=lN t.k_:=by simp[encI]at h;omega
  subst hj;rw[bJ]at i2;rw[aB i2]at hR;have hw1:=wI (n:=n-t.deep);have hw2:=wI (n:=n-t.deep+lN t.k_);subst hR;simp[hw1,hw2];exact fJ [0,1] [2,3]
abbrev Aw(M:oW):A_:=.arr 1 ((encI M).map (·.map .d))
theorem zuy(l:oW)(x:Int):pW l [x]=lS l x:=rfl
def Nj(c:n_):Prop:=∀(b:Int) (l:oW),l.Pairwise (· < ·)->lN l+Q_ c<=1000000000->
 q_ Pg 46 [.ag (c.enc.map .d),.c (.d (.int .i64 b)),.c (.x_ 1 0 0 (lN l))] [.arr 1 ((encI l).map (·.map .d))] (.c (.x_ 1 1 0 (pW l (iQ c b)).length)) [.dead,.arr 1 ((encI (pW l (iQ c b))).map (·.map .d))]
def zF8(c:n_)(ih:∀x,x∈c.b_->Nj x):Nj c:=λb l hl hs=>by
 refine zqe ⟨oC,oC,oC,oC,oC,by simp[live],by simp[live]⟩ λts _e ok hbk cx hN hp=>?_;obtain⟨t0,rfl⟩:=lK _e;have hsz:=lc c;have hkl:=Cv c.b_;rw[Na,Nh];let⟨R,hR⟩:=oJ (pW (pW l (xW c b)) (lQ c.b_ b));rw[hR];have key:∀(K:oW),pW K (lQ c.b_ b)=R->K.Pairwise (· < ·)->lN K+B_ c.b_<=1000000000->∀(S:St) (l0:oO),gy l0 S [(9,.c (.d (.int .i64 (0:Nat)))),(3,.c (.d (.rp c.enc 0))),(2,.c (.x_ 1 0 0 (lN K))),(1,.c (.d (.int .i64 b)))] [Aw K]->mI Pg cx Ke (Af 2 (yE (w_ Pg cx (.seq (.reg [⟨nN,sS 76,.mv (.t 2)⟩,⟨nN,sS 6,.mv (.t 76)⟩]) .ret) (vT [.tmp 6] (.c (.x_ 1 1 0 (lN R))) [.dead,Aw R] [t0]) ⟨⟩) (vT [.tmp 6] (.c (.x_ 1 1 0 (lN R))) [.dead,Aw R] [t0]))) ⟨⟩ S:=λK hK hK2 hK3 S l0 h0=>by
  refine fM gm hp (λY:Nat × List Int=>Y.1<=lN c.b_/\pW Y.2 (lQ (c.b_.drop Y.1) b)=R/\Y.2.Pairwise (· < ·)/\lN Y.2+B_ (c.b_.drop Y.1)<=1000000000) (λY=>[(9,.c (.d (.int .i64 Y.1))),(3,.c (.d (.rp c.enc 0))),(2,.c (.x_ 1 0 0 (lN Y.2))),(1,.c (.d (.int .i64 b)))]) (λY=>[Aw Y.2]) (λY=>lN c.b_-Y.1) (0,K) l0 ⟨oC,uM hK,hK2,uM hK3⟩ h0 λ⟨j,M⟩ ⟨i1,i2,i3,i4⟩=>?_;unfold Ke;simp only at i1 i2 i3 i4;simp;apply gM<;>intro h
  .have hj:j<lN c.b_:=uM h;rw[Tk hj,Nh]at i2;have hd4:B_ (c.b_.drop j)=Q_ c.b_[j]+B_ (c.b_.drop (j+1)):=by rw[aF hj,B_]
   have hc:=ih _ (aO hj) b M i3 oM;have hw:=wI (n:=(j:Int)+1);have hrl:=Nb c.b_[j] b;let⟨d,hd⟩:=oJ (c.b_[j]);rw[hd]at i2 hc hd4 hrl;have _V:=Tw (iQ d b) M;simp[hj,hd];refine gN [0] hc ?_;simp;refine fE (j+1,pW M (iQ d b)) [1] ⟨qM,i2,Ni i3,qM⟩ qM ?_;simp[hw]
  .have hj:j=lN c.b_:=oI h;subst hj;rw[aS,lQ,Il]at i2;subst i2;simp;exact fJ [1,0] [1]
 by_cases c4:c.d_=4;rotate_left
 .have e:xW c b=[]:=by unfold xW;rw[aB (λz=>c4 z.1)]
  rw[e,Il]at hR;unfold G7;simp[c4];refine fT [] ?_;simp only[Ed];simp[c4];exact key _ hR hl oM _ [0] oC
 by_cases cb:c.n<b;rotate_left
 .have e:xW c b=[]:=by unfold xW;rw[aB (λz=>cb z.2)]
  rw[e,Il]at hR;unfold G7;simp[c4,cb];refine fT [] ?_;simp only[Ed];simp[c4,cb];exact key _ hR hl oM _ [0] oC
 have e:xW c b=[c.n]:=by unfold xW;rw[aC ⟨c4,cb⟩]
 rw[e,zuy]at hR;unfold G7;simp[c4,cb];refine fT [] ?_;simp only[Ed];simp[c4,cb];have hR1:=zrH (x:=c.n) hl;have hR2:=zwH l c.n;refine fM gm hp (λk:Nat=>k<=lN l/\∀y,y∈l.take k->y<c.n) (λk=>[(7,.c (.d (.int .i64 k))),(3,.c (.d (.rp c.enc 0))),(2,.c (.x_ 1 0 0 (lN l))),(1,.c (.d (.int .i64 b)))]) (λ_=>[Aw l]) (λk=>lN l-k) 0 [0] oC oC λk ⟨i1,i2⟩=>?_;unfold Su;by_cases hk:k<lN l;rotate_left
 .have hk:k=lN l:=oM;subst hk;rw[bJ]at i2;have hni:c.n∉l:=λz=>by have:=i2 _ z;omega
  have hput:=Tv (x:=c.n) l (lN l) (aJ _) (by rw[bJ];exact i2) (λh=>by omega);rw[bJ,aS]at hput;have e1:lS l c.n=l++[c.n]:=by unfold lS;rw[aB hni,hput]
  rw[e1]at hR hR1 hR2;simp;refine⟨oD,oM,oD,oM,?_⟩;refine key _ hR hR1 oM _ [3] ?_;simp[encI];rw[aD oC,aD oC]
 let⟨d,hd⟩:=oJ (l[k]);by_cases _k:d<c.n
 .have hw:=wI (n:=(k:Int)+1);have hm:∀y,y∈l.take (k+1)->y<c.n:=λy hy=>by
   rw[aN hk,hd]at hy;rcases aL.1 hy with hy|hy
   .exact i2 y hy
   .rw[aK]at hy;omega
  simp[encI,hk,hd,_k];refine oG ?_;refine fE (k+1) [0] ⟨oM,hm⟩ oM ?_;simp[hw,encI]
 have hnk:¬k=lN l:=oM;by_cases heq:d=c.n
 .have hmem:c.n∈l:=by rw[<-heq,<-hd];exact aO hk
  have e1:lS l c.n=l:=by unfold lS;rw[aC hmem]
  rw[e1]at hR;have hnk2:¬(k:Int)=(lN l:Int):=oM;simp[encI,hk,hd,heq,hnk2];refine oG ?_;refine key _ hR hl oM _ [0] ?_;simp[encI]
 have hni:c.n∉l:=λz=>by
  let⟨q,hq,hqe⟩:=bg z;rcases Nat.lt_trichotomy q k with h|h|h
  .have:=i2 _ (List.mem_take_iff_getElem.2 ⟨q,oM,hqe⟩);omega
  .subst h;rw[hqe]at hd;exact heq hd.symm
  .have:=dL.1 hl k q hk hq h;omega
 have hput:=Tv (x:=c.n) l k oM i2 (λh=>by rw[hd];omega);have e1:lS l c.n=l.take k++c.n::l.drop k:=by unfold lS;rw[aB hni,hput]
 rw[e1]at hR hR1 hR2;have hnk2:¬(k:Int)=(lN l:Int):=oM;simp[encI,hk,hd,_k,heq,hnk2];refine⟨oD,oM,oM,oM,oM,oM,oD,oM,oM,?_⟩;refine key _ hR hR1 oM _ [3] ?_;simp[encI];refine⟨oM,?_,λx hx=>?_,λx hx=>?_⟩
 .rw[take_take,fA,aD (i:=k+1) (by simp;omega),aD (i:=lN l-k) oC];simp
 .let⟨y,_,e⟩:=af.1 (dH hx);subst e;simp
 .let⟨y,_,e⟩:=af.1 (di hx);subst e;simp
mutual
def zAb:∀c:n_,Nj c
|.mk k n t is ns ts cs ks=>zF8 _ (zwI ks)
def zwI:∀(l:List n_) (x:n_),x∈l->Nj x
|[],x,hx=>by cases hx
|c::l,x,hx=>by
 rcases aM.1 hx with e|hx
 .rw[e];exact zAb c
 .exact zwI l x hx
end
theorem zF9(c:n_)(b:Int)(hs:Q_ c<=1000000000):q_ Pg 46 [.ag (c.enc.map .d),.c (.d (.int .i64 b)),.c (.d (.sl tT 1 []))] [] (.c (.x_ 1 0 0 (pW [] (iQ c b)).length)) [Aw (pW [] (iQ c b))]:=by
 refine zqe ⟨oC,oC,oC,oC,oC,by simp[live],oC⟩ λts _e ok hbk cx hN hp=>?_;obtain rfl:=EB _e;have hsz:=lc c;have hkl:=Cv c.b_;rw[Na,Nh];let⟨R,hR⟩:=oJ (pW (pW [] (xW c b)) (lQ c.b_ b));rw[hR];have key:∀(K:oW),pW K (lQ c.b_ b)=R->K.Pairwise (· < ·)->lN K+B_ c.b_<=1000000000->∀(S:St) (l0:oO),gy l0 S [(9,.c (.d (.int .i64 (0:Nat)))),(3,.c (.d (.rp c.enc 0))),(2,.c (.x_ 1 0 0 (lN K))),(1,.c (.d (.int .i64 b)))] [Aw K]->mI Pg cx Ke (Af 2 (yE (w_ Pg cx (.seq (.reg [⟨nN,sS 76,.mv (.t 2)⟩,⟨nN,sS 6,.mv (.t 76)⟩]) .ret) (vT [.tmp 6] (.c (.x_ 1 0 0 (lN R))) [Aw R] []) ⟨⟩) (vT [.tmp 6] (.c (.x_ 1 0 0 (lN R))) [Aw R] []))) ⟨⟩ S:=λK hK hK2 hK3 S l0 h0=>by
  refine fM gm hp (λY:Nat × List Int=>Y.1<=lN c.b_/\pW Y.2 (lQ (c.b_.drop Y.1) b)=R/\Y.2.Pairwise (· < ·)/\lN Y.2+B_ (c.b_.drop Y.1)<=1000000000) (λY=>[(9,.c (.d (.int .i64 Y.1))),(3,.c (.d (.rp c.enc 0))),(2,.c (.x_ 1 0 0 (lN Y.2))),(1,.c (.d (.int .i64 b)))]) (λY=>[Aw Y.2]) (λY=>lN c.b_-Y.1) (0,K) l0 ⟨oC,uM hK,hK2,uM hK3⟩ h0 λ⟨j,M⟩ ⟨i1,i2,i3,i4⟩=>?_;unfold Ke;simp only at i1 i2 i3 i4;simp;apply gM<;>intro h
  .have hj:j<lN c.b_:=uM h;rw[Tk hj,Nh]at i2;have hd4:B_ (c.b_.drop j)=Q_ c.b_[j]+B_ (c.b_.drop (j+1)):=by rw[aF hj,B_]
   have hc:=zAb c.b_[j] b M i3 oM;have hw:=wI (n:=(j:Int)+1);have hrl:=Nb c.b_[j] b;let⟨d,hd⟩:=oJ (c.b_[j]);rw[hd]at i2 hc hd4 hrl;have _V:=Tw (iQ d b) M;simp[hj,hd];apply gN [0] hc;simp;apply fE (j+1,pW M (iQ d b)) [1] ⟨qM,i2,Ni i3,qM⟩ qM;simp[hw]
  .have hj:j=lN c.b_:=oI h;subst hj;rw[aS,lQ,Il]at i2;subst i2;simp;exact fJ [0] []
 by_cases c4:c.d_=4;rotate_left
 .have e:xW c b=[]:=by unfold xW;rw[aB (λz=>c4 z.1)]
  rw[e,Il]at hR;unfold G7;simp[c4];apply fT [.t 2];simp only[Pk,Ed];simp[c4];exact key _ hR oC (by simp;omega) _ [0] (by simp[encI])
 by_cases cb:c.n<b;rotate_left
 .have e:xW c b=[]:=by unfold xW;rw[aB (λz=>cb z.2)]
  rw[e,Il]at hR;unfold G7;simp[c4,cb];apply fT [.t 2];simp only[Pk,Ed];simp[c4,cb];exact key _ hR oC (by simp;omega) _ [0] (by simp[encI])
 have e:xW c b=[c.n]:=by unfold xW;rw[aC ⟨c4,cb⟩]
 have e1:lS [] c.n=[c.n]:=rfl;rw[e,zuy,e1]at hR;unfold G7;simp[c4,cb];apply fT [.t 2];simp only[Pk,Ed];simp[c4,cb];refine fM gm hp (λ_:Nat=>True) (λ_=>[(7,.c (.d (.int .i64 0))),(3,.c (.d (.rp c.enc 0))),(2,.c (.x_ 1 0 0 0)),(1,.c (.d (.int .i64 b)))]) (λ_=>[Aw []]) (λ_=>0) 0 [0] oC (by simp[encI]) λk _=>?_;unfold Su;simp[encI];refine⟨oD,oD,?_⟩;exact key _ hR oC (by simp;omega) _ [3] (by simp[encI])
def zC3{c:n_}{b b' x:Int}(hb:b<=b')(h:x∈iQ c b')(hx:x<b):x∈iQ c b:=by
 have key:∀n,∀c:n_,Q_ c<=n->x∈iQ c b'->x∈iQ c b:=λn=>by
  induction n with
  |zero=>intro c hc;have:=lc c;omega
  | succ n ih=>
   intro c hc h;rw[Na]at h⊢;rcases aL.1 h with h|h
   .apply bY _;unfold xW at h⊢;split at h
    next q=>
     rw[aK]at h;subst h;rw[aC ⟨q.1,hx⟩];simp
    .cases h
   .apply bf _;have hk:B_ c.b_<=n:=by have:=lc c;omega
    have key2:∀l:o8,B_ l<=n->x∈lQ l b'->x∈lQ l b:=λl=>by
     induction l with
     |nil=>intro _ h;rw[lQ]at h;cases h
     |cons d l ihl=>
      intro hl h;rw[B_]at hl;rw[lQ]at h⊢;rcases aL.1 h with h|h
      .exact bY _ (ih d oM h)
      .exact bf _ (ihl oM h)
    exact key2 _ hk h
 exact key _ c (aJ _) h
def UA(t:D_)(c:n_)(m:Int)(l:ou){h:Nat}(hh:h<lN l)(ht:l[h]=t):∃hh':h<(lG t c m l).2.length,(lG t c m l).2[h]=t:=by
 rw[Ga];refine⟨by rw[aV];omega,?_⟩;rw[List.getElem_append_left hh];exact ht
def St.cut7{F:St->Prop}{t:oZ}{m:Hp}{n:Nat}(ts:oZ)(bs:oV)(ht:∀p,p∈ts->Abs.look t p.1=p.2)(hm:∀i,m i=r_ bs i)(h:∀T,(∀p,p∈ts->Abs.look T p.1=p.2)->F ⟨T,r_ bs,n⟩):F ⟨t,m,n⟩:=by
 have e:m=r_ bs:=funext hm;subst e;exact h t ht
abbrev UB:A_:=.box [.d (.int .i64 0),.d (.int .i64 0),.d (.str (bs [])),.d (.sl tT 1 []),.d (.sl tT 1 []),.d (.sl tT 4 []),.d (.sl tT 5 []),.d (.sl tT 8 [])]
def Nk(c:n_):Prop:=∀(t:D_) (D m h:Nat) (l:ou),Kk t->t.deep=D->(∀x,x∈t.k_->0<=x/\x<D)->D<=m->(∀x,x∈iQ c D->x∈t.k_)->jD m c->m+Q_ c<=1000000000->lN l+Q_ c<=1000000000->(∃hh:h<lN l,l[h]=t)->
 q_ Pg 23 [.c (.ptr 0 0),.ag (c.enc.map .d),.c (.d (.int .i64 m))] (Tx h l) (.ag ((lG t c m l).1.enc.map .d)) (Tz h (lG t c m l).2)
theorem zFs(c:n_)(ih:∀x,x∈c.b_->Nk x):Nk c:=λt D m h l hT hD hcp hDm hv hc hm hl ⟨hh,ht⟩=>by
 refine znm kW λts _e ok hbk cx hN hp=>?_;obtain⟨u,v,rfl⟩:=Rw _e;have hsz:=lc c;have hkl:=Cv c.b_;have hwf:c.d_≠23/\(c.d_=18->lN c.b_<=2)/\(c.d_=21->lN c.b_=1/\lN c.types=2)/\(c.d_=4->0<=c.n/\c.n<m/\c.b_=[])/\(c.d_=5->lN c.b_=1)/\h? m c.d_ c.b_ 0:=by
  cases c;rw[jD]at hc;exact hc
 rw[Na]at hv;rw[zFZ];unfold zgJ;simp;by_cases c4:c.d_=4
 .rw[aC c4];have hn:=hwf.2.2.2.1 c4;have hnum:yY t c.n=lZ t c.n:=zux hD hcp (by
   by_cases q:c.n<D
   .exact .inl (hv _ (bY _ (by unfold xW;rw[aC ⟨c4,q⟩];simp)))
   .exact .inr oM)
  have mn:=zrJ t h l hh ht c.n ⟨hT.d0,hT.d1⟩ oM hT.k_;rw[hnum]at mn;simp[c4];refine gN [0,1] mn ?_;simp[zKR];refine fQ [] ?_;simp;exact fH [0,4,1] [2,2] (by simp[AV.R_,AV.K_,c4])
 rw[aB c4];by_cases c5:c.d_=5
 .rw[aC c5];let⟨a,ha⟩:∃a,c.b_=[a]:=by
   have:=hwf.2.2.2.2.1 c5
   match h:c.b_,this with
   |[a],_=>exact⟨a,rfl⟩
  have e00:c.b_.getD 0 noC=a:=by rw[ha];try rfl
  rw[e00];have hsa:B_ c.b_=Q_ a:=by rw[ha];simp[B_]
  have hwa:jD (m+1) a:=by
   have:=hwf.2.2.2.2.2;rw[ha,c5,h?]at this;simpa using this.1
  have hcl:=Tn a m;have hcm:∀x,x∈yA a m->0<=x/\x<m:=λx hx=>Kj a _ _ x hwa (Ii.1 hx);have hcn:∀x,x∈yA a m->yY t x=lZ t x:=λx hx=>zux hD hcp (by
   by_cases q:x<D
   .exact .inl (hv x (bf _ (by rw[ha,lQ,lQ,bi];exact zC3 oM (Ii.1 hx) q)))
   .exact .inr oM)
  have hfr:=zF9 a m oM;rw[zBy]at hfr;simp[c4,c5,ha];generalize yA a m=C at*
  refine gN [] hfr ?_;simp;refine fQ [6] ?_;simp only[D5,Ef,aC,aB,reduceIte,Nat.reduceEqDiff,CV,yG,A_.fz_arr,F8,DZ];refine St.cut7 (F:=w_ Pg cx _ _ _) [(0,.c (.ptr 0 0)),(2,.c (.d (.int .i64 m))),(4,.c (.ptr 4 0)),(6,.c (.ptr 5 0)),(7,.c (.d (.sl oK 1 (encI C))))] [.box [.x_ 11 1 0 (lN l),.d (.int .i64 h)],xX l,.G_ u 0,.G_ v 1,.box (c.enc.map .d),UB,.dead] ?_ ?_ λT' hT'=>?_
  .simp[iE,encI];exact aD oC
  .intro i;by_cases q:i<7
   .rcases(show i=0\/i=1\/i=2\/i=3\/i=4\/i=5\/i=6 from by omega)with rfl|rfl|rfl|rfl|rfl|rfl|rfl<;>simp[iE]
   .refine Eq.trans (b:=A_.c?) ?_ (wR (by simp;omega)).symm;try simp[show i≠0 from by omega,show i≠1 from by omega,show i≠4 from by omega,show i≠5 from by omega,show i≠6 from by omega]
    rw[wR (show 4<=i from by omega)];try rfl
  simp only[dx,bv,false_implies,implies_true,and_true]at hT';let⟨k0,k2,k4,k6,k7⟩:=hT';simp[k0,k2,k4,k6,k7,hh,ht,ha,zF0,zDz,zF1];have hwl:=wI (n:=(lN l:Int));refine⟨by unfold zaf;have:=hT.name;omega,oM,oD,?_⟩;refine fT [.c 8 3] ?_;simp[hwl];let⟨l',hl'⟩:=oJ (l++[(⟨t.name++bs [39],a,C,m,oK⟩:D_)]);have hll:lN l'=lN l+1:=by rw[<-hl'];simp
  have hh':h<lN l':=oM;have ht':l'[h]=t:=by simp only[<-hl'];rw[List.getElem_append_left hh];exact ht
  have hla:List.map ((λx=>List.map AC.d x)∘D_.enc) l++[List.map AC.d (D_.enc ⟨t.name++bs [39],a,C,m,oK⟩)]=(l'.map D_.enc).map (·.map .d):=by rw[<-hl'];simp
  have htl:take (lN l) (List.map ((λx=>List.map AC.d x)∘D_.enc) l)=List.map ((λx=>List.map AC.d x)∘D_.enc) l:=aD oC;rw[hl'];refine fM gm hp (λj:Nat=>j<=lN C) (λj=>[(9,.c (.d (.int .i64 j))),(8,.c (.ptr 4 0)),(7,.c (.d (.sl oK 1 (encI C)))),(6,.c (.ptr 3 0)),(0,.c (.ptr 0 0))]) (λj=>[.box [.x_ 11 1 0 (lN l'),.d (.int .i64 h)],xX l',.G_ u 0,UB,.box [.d (.int .i64 23),.d (.int .i64 (lN l)),.d (.str (bs [])),.x_ 1 5 0 j,.d (.sl tT 1 []),.d (.sl tT 4 []),.d (.sl tT 5 []),.d (.sl tT 8 [])],Aw ((C.take j).map (lZ t))]) (λj=>lN C-j) 0 [0,7,2,5,8,9] oC (by simp[k0,k6,k7,encI,hll,htl,<-hl']) λj h1=>?_;unfold zfT;simp;apply gM<;>intro h
  .have hj:j<lN C:=by simpa[encI]using h
   have hw:=wI (n:=(j:Int)+1);have hx:=hcm _ (aO hj);have mn:=zrJ t _ l' hh' ht' C[j] ⟨hT.d0,hT.d1⟩ oM hT.k_;rw[hcn _ (aO hj)]at mn;simp[encI,hj];refine gN [0,1] mn ?_;simp[encI];refine⟨oM,oM,oD,?_⟩;refine fE (j+1) [0,1,2,3,4,6] oM oM ?_;simp[hw,encI];refine⟨?_,λx hx=>?_⟩
   .rw[take_take,fA,aN (uM hj)];simp
   .let⟨y,_,e⟩:=af.1 (dH hx);subst e;simp
  .have hj:j=lN C:=by simp[encI]at h;omega
   subst hj;simp;refine fQ [5] ?_;simp;have htC:take (lN C) (List.map ((λi=>[Abs.D.int .i64 i])∘lZ t) C)=List.map ((λi=>[Abs.D.int .i64 i])∘lZ t) C:=aD oC;exact fH [0,3,1] [2,2] (by simp[AV.R_,AV.K_,AC.K_,Abs.D.W_,Abs.D.K_,Abs.D.O_,n_.enc,n_.j?,encI,encS,htC,zwt])
 rw[aB c5];simp[c4,c5];refine fT [.t 10] ?_;simp;let⟨R,hR⟩:=oJ (ko t c.d_ c.b_ 0 m l);rw[hR];have hvk:∀x,x∈lQ c.b_ D->x∈t.k_:=λx hx=>hv x (bf _ hx);refine fM gm hp (λY:Nat × List n_ × List D_=>Y.1<=lN c.b_/\lN Y.2.1=Y.1/\(Y.2.1++(ko t c.d_ (c.b_.drop Y.1) Y.1 m Y.2.2).1,(ko t c.d_ (c.b_.drop Y.1) Y.1 m Y.2.2).2)=R/\lN Y.2.2+B_ (c.b_.drop Y.1)<=1000000000/\(∃hh:h<lN Y.2.2,Y.2.2[h]=t)/\∀x,x∈lQ (c.b_.drop Y.1) D->x∈t.k_) (λY=>[(11,.c (.d (.int .i64 Y.1))),(10,.c (.x_ 8 5 0 (lN Y.2.1))),(6,.c (.ptr 3 0)),(4,.c (.ptr 2 0)),(2,.c (.d (.int .i64 m))),(0,.c (.ptr 0 0))]) (λY=>[.box [.x_ 11 4 0 (lN Y.2.2),.d (.int .i64 h)],.G_ u 0,.box (c.enc.map .d),UB,xX Y.2.2,.arr 8 ((Y.2.1.map n_.enc).map (·.map .d))]) (λY=>lN c.b_-Y.1) (0,[],l) [0,2,4,5,1,6] ⟨oC,rfl,uM hR,by simp;omega,⟨hh,ht⟩,uM hvk⟩ oC λ⟨j,K,q⟩ ⟨i1,i2,i3,i4,i5,i6⟩=>?_;unfold zfU;simp only at i1 i2 i3 i4 i5 i6;simp;apply gM<;>intro h
 .have hj:j<lN c.b_:=uM h;have hw:=wI (n:=(j:Int)+1);have hwj:=Kl c5 hj hwf.2.2.2.2.2;have hsj:=G9 hj;have hdj:B_ (c.b_.drop j)=Q_ c.b_[j]+B_ (c.b_.drop (j+1)):=by rw[aF hj,B_]
  have hco:=ih _ (aO hj);rw[Tk hj]at i6;rw[zy6 t c.d_ hj]at i3;let⟨d,hd⟩:=oJ (c.b_[j]);rw[hd]at hwj hsj hdj hco i3 i6;have htK:take (lN K) (List.map ((λx=>List.map AC.d x)∘n_.enc) K)=List.map ((λx=>List.map AC.d x)∘n_.enc) K:=aD oC;by_cases c18:c.d_=18
  .have hk2:=hwf.2.1 c18;rw[aC c18]at hwj;simp only[aC c18]at i3;by_cases j1:j=1
   .subst j1;have hwd:=wI (n:=(m:Int)+1);have mc:=hco t D (m+1) _ q hT hD hcp oM (λx hx=>i6 x (bY _ hx)) (uM hwj) oM oM i5;have hlen:=Nc t d (m+1) q;have hpre:=UA t d (m+1) q i5.1 i5.2;have em:((m+1:Nat):Int)=(m:Int)+1:=oM;rw[em]at mc;have e1:((1:Nat):Int)=1:=rfl;rw[e1]at i3;generalize lG t d ((m:Int)+1) q=r at*
    simp[hj,hd,c18,hwd];refine gN [0,4] mc ?_;simp;refine jV ?_;refine fE (1+1,K++[r.1],r.2) [0,1,2,3,6,8] ⟨qM,by simp[i2],uM i3,qM,hpre,λx hx=>i6 x (bf _ hx)⟩ qM ?_;simp[hw,htK,show IntKind.i64.wrap 2=2 from by decide,show IntKind.i64.wrap 1=1 from by decide]
   .have j0:j=0:=oM;subst j0;have mc:=hco t D m _ q hT hD hcp hDm (λx hx=>i6 x (bY _ hx)) (uM hwj) oM oM i5;have hlen:=Nc t d m q;have hpre:=UA t d m q i5.1 i5.2;have e1:(m:Int)+((0:Nat):Int)=m:=oM;rw[e1]at i3;generalize lG t d m q=r at*
    simp[hj,hd,c18];refine gN [0,4] mc ?_;simp;refine jV ?_;refine fE (0+1,K++[r.1],r.2) [0,1,2,3,6,8] ⟨qM,by simp[i2],uM i3,qM,hpre,λx hx=>i6 x (bf _ hx)⟩ qM ?_;simp[hw,htK,show IntKind.i64.wrap 2=2 from by decide,show IntKind.i64.wrap 1=1 from by decide]
  .rw[aB c18]at hwj;simp only[aB c18]at i3;have mc:=hco t D m _ q hT hD hcp hDm (λx hx=>i6 x (bY _ hx)) (uM hwj) oM oM i5;have hlen:=Nc t d m q;have hpre:=UA t d m q i5.1 i5.2;generalize lG t d m q=r at*
   simp[hj,hd,c18];refine gN [0,4] mc ?_;simp;refine jV ?_;refine fE (j+1,K++[r.1],r.2) [0,1,2,3,6,8] ⟨qM,by simp[i2],uM i3,qM,hpre,λx hx=>i6 x (bf _ hx)⟩ qM ?_;simp[hw,htK]
 .have hj:j=lN c.b_:=oI h;subst hj;rw[aS,ko]at i3;subst i3;simp[zKS];refine fQ [5] ?_;simp;have htk:take (lN c.b_) (List.map n_.enc K)=List.map n_.enc K:=aD (by simp[i2]);exact fH [0,2,4] [1,1] (by simp[AV.R_,AV.K_,AC.K_,i2,htk,n_.enc,n_.q?,NE,gT.erdE_map,n_.erdE_map])
mutual
def zyS:∀c:n_,Nk c
|.mk k n t is ns ts cs ks=>zFs _ (zvB ks)
def zvB:∀(l:List n_) (x:n_),x∈l->Nk x
|[],x,hx=>by cases hx
|c::l,x,hx=>by
 rcases aM.1 hx with e|hx
 .rw[e];exact zyS c
 .exact zvB l x hx
end
@[simp] theorem lC.g0(p:lC)(h:0<lN p.enc):p.enc[0]=.sl oK 13 (p.v_.map jN.enc):=rfl
@[simp] theorem jN.cut_bodyE(f:jN):cut f.enc 5 8=f.body.enc:=by unfold jN.enc;rw[f.type.l_,f.body.l_];try rfl
theorem UC(p:lC)(hp0:wE p):h_ Pg 10 [.agg p.enc] (Tt (Ct p)):=by
 refine zvT oC λo cx hN hp=>?_;let⟨R,hR⟩:=oJ (Ct p);rw[hR];have hpl:=hp0.2;have pe0:p.enc[0]?=sS (.sl oK 13 (p.v_.map jN.enc)):=rfl;unfold zk7;simp;refine fT [.c 0 0] ?_;simp;refine fM gm hp (λj:Nat=>j<=lN p.v_) (λj=>[(4,.c (.d (.int .i64 j))),(3,.c (.ptr 0 0)),(1,.c (.d (.rp p.enc 0)))]) (λj=>[.box [.x_ 11 1 0 j,.d (.int .i64 (0:Nat))],xX ((p.v_.take j).map pg)]) (λj=>lN p.v_-j) 0 [0,1] oC oC λj h1=>?_;unfold zjj;simp[pe0];apply gM<;>intro h
 .have hj:j<lN p.v_:=uM h;have hw:=wI (n:=(j:Int)+1);let⟨f,hf⟩:=oJ (p.v_[j]);have htk:p.v_.take (j+1)=p.v_.take j++[f]:=by rw[aN hj,hf]
  simp[pe0,hj,hf,zFi];refine⟨oM,oM,oD,?_⟩;refine fE (j+1) [0,2] oM oM ?_;simp[hw];refine⟨?_,λx hx=>?_⟩
  .rw[take_take,fA,aN (uM hj)];simp[hf,pg]
  .let⟨y,_,e⟩:=af.1 (dH hx);subst e;simp
 .have hj:j=lN p.v_:=oI h;subst hj;simp;refine fT [.t 5] ?_;simp;have hst:=uh.start hp0;have hpf:lN p.v_+nU (p.v_.map (·.body))=Av (p.v_.map pg) 0:=by
   unfold Av jH;have key:∀l:List jN,nU (l.map (·.body))=((l.map pg).map λt=>Cs t.body).sum:=λl=>by
    induction l with
    |nil=>simp[nU]
    |cons f l ih=>simp only[map_cons,nU,ih,List.sum_cons];rfl
   rw[key];simp
  unfold Ct Bq at hR;rw[hpf]at hR;refine fM gm hp (λY:Nat × List D_ × List B?=>uh Y.2.1 Y.1/\lN Y.2.2=Y.1/\G8 (Av Y.2.1 Y.1+1) Y.1 Y.2.1 Y.2.2=R) (λY=>[(5,.c (.x_ 10 2 0 (lN Y.2.2))),(3,.c (.ptr 0 0))]) (λY=>[.box [.x_ 11 1 0 (lN Y.2.1),.d (.int .i64 Y.1)],xX Y.2.1,Tu Y.2.2]) (λY=>Av Y.2.1 Y.1) (0,p.v_.map pg,[]) [0,1,2] ⟨hst,rfl,hR⟩ (by simp;exact aD oC) λ⟨i,l,o⟩ ⟨i1,i2,i3⟩=>?_;unfold zjk;simp only at i1 i2 i3;by_cases hi:i<lN l
  .have h500:=i1.2.2;have hw:=wI (n:=(i:Int)+1);have htg:=i1.2.1 _ (aO hi);let⟨D,hD,hwf,hb,hcp,hv⟩:=htg.ex;have hst2:=i1.step hi hD hwf hb;have hps:=zyC hi hD hwf;rw[Ng Q_ hi]at h500;let⟨t,ht⟩:=oJ (l[i]);rw[<-hps]at i3;rw[G8,aA hi]at i3;simp only at i3;rw[ht]at htg hD hwf hb hst2 hps i3 h500 hcp hv;have mc:=zyS t.body t D (D+1) i l htg.S hD hcp oM hv hwf oM oM ⟨hi,ht⟩;have em:((D+1:Nat):Int)=t.deep+1:=by rw[hD];omega
   rw[em]at mc;have hwd:=wI (n:=t.deep+1);have hTn:lN t.k_<=1000000000:=htg.k_;generalize lG t t.body (t.deep+1) l=r at*
   simp[hi,ht,hwd];refine⟨oD,oD,?_⟩;refine gN [0,1] mc ?_;simp[zJu,zJv];refine jV ?_;have hto:take (lN o) (List.map ((λx=>List.map AC.d x)∘B?.enc) o)=List.map ((λx=>List.map AC.d x)∘B?.enc) o:=aD oC;refine fE (i+1,r.2,o++[⟨t.name,lN t.k_,r.1⟩]) [0,4,6] ⟨hst2,by simp[i2],i3⟩ qM ?_;simp[hw,hto]
  .have hi:i=lN l:=by have:=i1.1;omega
   subst hi;have e0:Av l (lN l)=0:=by simp[Av]
   rw[e0,G8,aR (aJ _)]at i3;simp only at i3;subst i3;simp;refine oG ?_;refine fQ [2] ?_;simp;exact aD oC
variable {s:Nat}{x:fD}
abbrev TE:=Nat × fD × List fD
variable {T:List TE}
def Ay(s:Nat)(x:fD):List TE->Nat->Option Nat
|[],_=>nN
|e::l,i=>if e.1=s/\e.2.1=x then sS i else Ay s x l (i+1)
def mH(T:List TE)(s:Nat):oN:=match T[s]? with
|some e=>e.2.2
|none=>[]
def zF(x:fD):List fD->Bool
|[]=>oK
|y::l=>if x=y then tT else zF x l
def jS(T:List TE)(s:Nat)(x:fD):List TE × Nat:=if zF x (mH T s)=tT then(T,s)else match Ay s x (T.drop 1) 1 with
|some k=>(T,k)
|none=>(T++[(s,x,mH T s++[x])],lN T)
def pq:List TE->Nat->List fD->List TE × Nat
|T,s,[]=>(T,s)
|T,s,x::l=>pq (jS T s x).1 (jS T s x).2 l
def kU:Nat->Nat->List D
|_,0=>[]
|i,n+1=>.int .i64 i::kU (i+1) n
def uP(e:TE):oQ:=[.sl oK 1 (encS e.2.2),.mp (e.2.2.map .str) (kU 0 (lN e.2.2))]
def uQ:List TE->o5
|[]=>[]
|_::l=>[.sl tT 1 [],.sc (.map nN)]::l.map uP
def lU:List TE->Nat->List (D × AV)
|[],_=>[]
|e::l,i=>(.sc (.agg ⟨[.int .i64 e.1,.string e.2.1]⟩),.c (.d (.int .i64 i)))::lU l (i+1)
abbrev Nl(T:List TE):oV:=[.box [.x_ 2 1 0 (lN T),.map 2],.arr 2 ((uQ T).map (·.map .d)),.map (lU (T.drop 1) 1)]
@[simp] theorem zLJ:∀T:List TE,(uQ T).length=lN T
|[]=>rfl
|_::l=>by simp[uQ]
def UD{ts:o6}{a b c:A_}(h:lN ts=[a,b,c].length):∃t u v,ts=[t,u,v]:=by
 match ts,h with
 |[t,u,v],_=>exact⟨t,u,v,rfl⟩
@[simp] theorem zDD(f:Nat->Nat):∀(l:List TE) (i:Nat),(lU l i).map (λe=>(e.1,AV.N_ f e.2))=lU l i
|[],i=>rfl
|e::l,i=>by simp[lU,zDD f l (i+1)]
@[simp] theorem zF4(n:Nat):∀(l:List TE) (i:Nat),(lU l i).all (λe=>AV.lt n e.2)=tT
|[],i=>rfl
|e::l,i=>by simp[lU,zF4 n l (i+1)]
@[simp] theorem zF5(p:Nat->Bool):∀(l:List TE) (i:Nat),(lU l i).all (λe=>AV.lv p e.2)=tT
|[],i=>rfl
|e::l,i=>by simp[lU,zF5 p l (i+1)]
def zKU(T:List TE)(s:Nat)(hs:s<lN T)(hl:lN T<=1000000000):q_ Pg 212 [.c (.ptr 0 0),.c (.d (.int .i64 s))] (Nl T) (.c (.ept 2 1 s 0)) (Nl T):=by
 refine zqW ⟨oC,oC,oC,oC,oC,by simp[live],by simp[live]⟩ λts _e ok hb c hN hp=>?_;obtain⟨t,u,v,rfl⟩:=UD _e;have h0:¬((s:Int)<0):=oM;have h1:¬(lN T<=s):=oM;unfold zi3;simp[hs,h0,h1];exact fJ [0,1,2] [3,4,5]
def Km{x:fD}:∀(l:List fD) (i j:Nat),(zF x l=oK->d? 1 (.str x) (pI (l.map .str) (kU i (lN l))) j=sS nN)/\(zF x l=tT->∃k v,d? 1 (.str x) (pI (l.map .str) (kU i (lN l))) j=sS (sS (k,v)))
|[],i,j=>by simp[zF,pI,d?]
| y::l,i,j=>by
 let⟨h1,h2⟩:=Km (x:=x) l (i+1) (j+1);by_cases h:x=y
 .simp[zF,h,pI,kU,d?,vP]
 .simp only[zF,aB h,map_cons,length_cons,kU,pI,d?,vP,bL h];exact⟨h1,h2⟩
def zpJ{s:Nat}{x:fD}:∀(l:List TE) (i j:Nat),match Ay s x l i with
 |none=>d? 3 (.sc (.agg ⟨[.int .i64 s,.string x]⟩)) (lU l i) j=sS nN
 |some k=>∃q,d? 3 (.sc (.agg ⟨[.int .i64 s,.string x]⟩)) (lU l i) j=sS (sS (q,.c (.d (.int .i64 k))))
|[],i,j=>by simp[Ay,lU,d?]
| e ::l,i,j=>by
 have ih:=zpJ (s:=s) (x:=x) l (i+1) (j+1);unfold Ay;by_cases h1:e.1=s
 .by_cases h2:e.2.1=x
  .rw[aC ⟨h1,h2⟩];exact⟨j,by simp[lU,d?,vP,h1,h2]⟩
  .rw[aB (λh=>h2 h.2)];have e1:d? 3 (.sc (.agg ⟨[.int .i64 s,.string x]⟩)) (lU (e::l) i) j=d? 3 (.sc (.agg ⟨[.int .i64 s,.string x]⟩)) (lU l (i+1)) (j+1):=by
    have:¬x=e.2.1:=λh=>h2 h.symm;simp[lU,d?,vP,h1,this]
   rw[e1];exact ih
 .rw[aB (λh=>h1 h.1)];have e1:d? 3 (.sc (.agg ⟨[.int .i64 s,.string x]⟩)) (lU (e::l) i) j=d? 3 (.sc (.agg ⟨[.int .i64 s,.string x]⟩)) (lU l (i+1)) (j+1):=by
   have:¬(s:Int)=e.1:=oM;simp[lU,d?,vP,this]
  rw[e1];exact ih
def Kn(hs:s<lN T):mH T s=T[s].2.2:=by
 unfold mH;rw[aA hs]
structure AP (T:List TE):Prop where
 ne:0<lN T
 zero:mH T 0=[]
 len:lN T<=1000000000
 nodup:∀e,e∈T->e.2.2.Nodup/\lN e.2.2<lN T
def AP.few(h:AP T)(s:Nat):(mH T s).length<lN T:=by
 unfold mH;split
 next e he=>
  exact(h.nodup e (ah he)).2
 .exact h.ne
def zIx(h:AP T)(hs:s<lN T):(uQ T)[s]?=sS (if s=0 then [.sl tT 1 [],.sc (.map nN)]else uP T[s]):=by
 cases T with
 |nil=>simp at hs
 | cons e l=>
  cases s with
  |zero=>simp[uQ]
  |succ s=>
   have:s<lN l:=uM hs;simp[uQ,aA this]
variable {i:Nat}{l:List fD}{S:St}
def zvw(l:oN)(hl:lN l<=1000000000):q_ Pg 213 [.c (.d (.sl oK 1 (encS l)))] [] (.c (.x_ 1 0 0 (lN l))) [.arr 1 ((encS l).map (·.map .d))]:=by
 refine zgy ⟨oC,oC,oC,oC,oC,by simp[live],by simp[live]⟩ λts _e ok hb c hN hp=>?_;obtain rfl:=EB _e;unfold zdw;cases l with
 | nil=>
  simp[encS];refine⟨fT [.t 2] ?_,fT [] ?_⟩
  .simp;exact fJ [0] []
  .simp;exact fJ [0] []
 |cons x l=>
  simp[encS];refine⟨by simp at hl;omega,?_⟩;apply fT [];simp;exact fJ [0] []
def zCO:q_ Pg 213 [.c (.d (.sl tT 1 []))] [] (.c (.x_ 1 0 0 0)) [.arr 1 []]:=by
 have h:=zvw [] oC;exact q_.K_ h (by simp[AV.R_,AV.K_,AC.K_,D.K_,D.O_,encS])
def zzL{N:oN}(h:N=[]):q_ Pg 213 [.c (.d (.sl tT 1 []))] [] (.c (.x_ 1 0 0 (lN N))) [.arr 1 ((encS N).map (·.map .d))]:=by
 subst h;exact zCO
def zqs{e:TE}(hs:s<lN T):mH (T++[e]) s=mH T s:=by
 unfold mH;rw[aj hs]
def Ko{x:fD}:∀{l:List fD},zF x l=tT↔x∈l
|[]=>by simp[zF]
|y::l=>by
 have ih:=Ko (x:=x) (l:=l);unfold zF;by_cases h:x=y
 .simp[h]
 .rw[aB h,ih];simp[h]
def zyD:∀{l:List TE} {i k:Nat},Ay s x l i=sS k->i<=k/\k<i+lN l
|[],i,k,h=>by simp[Ay]at h
| e::l,i,k,h=>by
 unfold Ay at h;split at h
 .cases h;simp
 .have:=zyD h;simp only[length_cons];omega
def zvx(h:AP T)(hs:s<lN T)(x:fD)(hl:lN T<1000000000):AP (jS T s x).1/\(jS T s x).2<(jS T s x).1.length/\lN T<=(jS T s x).1.length/\(jS T s x).1.length<=lN T+1:=by
 unfold jS;split
 .exact⟨h,hs,aJ _,oC⟩
 next hx=>
  split
  next k hk=>
   have:=zyD hk;rw[dN]at this;have:=h.ne;exact⟨h,qM,aJ _,oC⟩
  .refine⟨⟨oC,?_,by simp;omega,λe he=>?_⟩,oC,oC,oC⟩
   .rw[zqs h.ne];exact h.zero
   .rcases aL.1 he with he|he
    .have:=h.nodup e he;exact⟨this.1,by simp;omega⟩
    .rw[aK]at he;subst he;have h1:=h.nodup _ (aO hs);rw[<-Kn hs]at h1;refine⟨?_,by simp;omega⟩;rw[bK];refine⟨h1.1,oC,λa ha b hb e=>?_⟩;rw[aK]at hb;subst hb;subst e;exact hx (Ko.2 ha)
def zvy:∀(l r:List TE) (i:Nat),lU (l++r) i=lU l i++lU r (i+lN l)
|[],r,i=>by simp[lU]
|e::l,r,i=>by
 simp only[cons_append,lU,zvy l r (i+1),length_cons];rw[show i+1+lN l=i+(lN l+1) by omega]
def zCP(h:0<lN T)(e:TE):(T++[e]).drop 1=T.drop 1++[e]:=by
 rw[bV oM]
def zCQ(h:0<lN T)(e:TE):uQ (T++[e])=uQ T++[uP e]:=by
 cases T with
 |nil=>simp at h
 |cons a l=>simp[uQ]
def Az(l:oN)(i:Nat):oz:=pI ((l.take i).map .str) (kU 0 i)
def zvz:∀(i n:Nat),kU i (n+1)=kU i n++[.int .i64 ((i+n:Nat):Int)]
|i,0=>by simp[kU]
|i,n+1=>by
 rw[kU,zvz (i+1) n,kU];simp;omega
def zAZ:∀(a b c d:List D),lN a=lN c->pI (a++b) (c++d)=pI a c++pI b d
|[],b,[],d,_=>rfl
|[],b,_::_,d,h=>by simp at h
|_::_,b,[],d,h=>by simp at h
|x::a,b,y::c,d,h=>by simp[pI,zAZ a b c d (uM h)]
def zyE:∀i n,(kU i n).length=n
|_,0=>rfl
|i,n+1=>by simp[kU,zyE (i+1) n]
def zCR{l:oN}(h:i<lN l):Az l (i+1)=Az l i++[(.str l[i],.c (.d (.int .i64 i)))]:=by
 unfold Az;rw[aN h,dO,zvz,zAZ _ _ _ _ (by simp[zyE];omega)];simp[pI]
def zFj{l:oN}(hn:l.Nodup)(h:i<lN l):d? 1 (.str l[i]) (Az l i) 0=sS nN:=by
 have e:i=(l.take i).length:=by simp;omega
 have hx:zF l[i] (l.take i)=oK:=by
  cases q:zF l[i] (l.take i)with
  |false=>rfl
  |true=>
   exfalso;rw[Ko]at q;let⟨j,hj,e⟩:=List.mem_iff_getElem.1 q;rw[getElem_take]at e;have _q:j<i:=oI hj;have h2:j<lN l:=oM;have:j=i:=(getElem?_inj h2 hn).1 (by rw[aA h2,aA h];exact dM sS e);omega
 have h1:=(Km (x:=l[i]) (l.take i) 0 0).1 hx;unfold Az;rw[<-e]at h1;exact h1
def zzM(l:oN):vS (Az l (lN l))=sS (l.map .str,kU 0 (lN l)):=by
 unfold Az;rw[bJ];have:∀(l:oN) (i:Nat),vS (pI (l.map .str) (kU i (lN l)))=sS (l.map .str,kU i (lN l)):=by
  intro l
  induction l with
  |nil=>intro i;simp[pI,vS,kU]
  |cons x l ih=>intro i;simp[pI,vS,kU,ih,D.one]
 exact this l 0
@[simp] theorem zLU(f:Nat->Nat)(l:oN)(i:Nat):(Az l i).map (λe=>(e.1,AV.N_ f e.2))=Az l i:=by
 have:∀a b:oQ,(pI a b).map (λe=>(e.1,AV.N_ f e.2))=pI a b:=by
  intro a
  induction a with
  |nil=>intro b;simp[pI]
  |cons x a ih=>intro b;cases b<;>simp[pI,ih]
 exact this _ _
@[simp] theorem zMC(n:Nat)(l:oN)(i:Nat):(Az l i).all (λe=>AV.lt n e.2)=tT:=by
 have:∀a b:oQ,(pI a b).all (λe=>AV.lt n e.2)=tT:=by
  intro a
  induction a with
  |nil=>intro b;simp[pI]
  |cons x a ih=>intro b;cases b<;>simp[pI,ih]
 exact this _ _
abbrev UE(A B:A_)(C:oz)(t u v:Nat × Nat)(M:oN)(i:Nat):oV:=[A,B,.map C,.G_ t 0,.G_ u 1,.G_ v 2,.dead,.arr 1 ((encS M).map (·.map .d)),.map (Az M i),.box [.x_ 1 7 0 (lN M),.map 8]]
def zCS{c:Ctx}(hp:c.pure)(T:List TE)(s:Nat)(x:fD)(C:List TE)(t u v:Nat × Nat)(M:oN)(hn:M.Nodup)(hl:lN M<=1000000000){Q:Exit->St->Prop}{g}{ms:oO}
  (h0:gy ms S [(58,.c (.d (.int .i64 0))),(57,.c (.d (.int .i64 (lN M)))),(56,.c (.x_ 1 7 0 (lN M))),(13,.c (.ptr 9 0)),(0,.c (.ptr 0 0)),(1,.c (.d (.int .i64 s))),(2,.c (.d (.str x)))] (UE (.box [.x_ 2 1 0 (lN T),.map 2]) (.arr 2 ((uQ T).map (·.map .d))) (lU C 1) t u v M 0))
  (hQ:∀Z,Abs.look Z 13=.c (.ptr 9 0)->Abs.look Z 0=.c (.ptr 0 0)->Abs.look Z 1=.c (.d (.int .i64 s))->Abs.look Z 2=.c (.d (.str x))->Q (.exit 0) ⟨Z,r_ (UE (.box [.x_ 2 1 0 (lN T),.map 2]) (.arr 2 ((uQ T).map (·.map .d))) (lU C 1) t u v M (lN M)),10⟩):mI Pg c TP Q g S:=by
 refine fM gm hp (λi:Nat=>i<=lN M) (λi=>[(58,.c (.d (.int .i64 i))),(57,.c (.d (.int .i64 (lN M)))),(56,.c (.x_ 1 7 0 (lN M))),(13,.c (.ptr 9 0)),(0,.c (.ptr 0 0)),(1,.c (.d (.int .i64 s))),(2,.c (.d (.str x)))]) (λi=>UE (.box [.x_ 2 1 0 (lN T),.map 2]) (.arr 2 ((uQ T).map (·.map .d))) (lU C 1) t u v M i) (λi=>lN M-i) 0 ms oC h0 λi hi=>?_;simp[TP];apply gM<;>intro q
 .have hi':i<lN M:=uM q;have _Z:=zFj hn hi';simp[hi',_Z,encS];apply fE (i+1) [0,1,2,3,4,5,6,7,8,9] oM oM;simp[zCR hi',encS];exact wI
 .have hi':i=lN M:=oI q;subst hi';simp;exact hQ _ oC oC oC oC
@[simp] theorem zMD(e:TE):(uP e).length=2:=rfl
@[simp] theorem zME(e:TE):cut ((uP e).map AC.d) 0 2=(uP e).map .d:=rfl
def zFk(T:List TE):take (lN T) (List.map (λx=>List.map AC.d x) (uQ T))=List.map (λx=>List.map AC.d x) (uQ T):=aD oC
def zZ.mapArr{K:St->Prop}{g:Tag K}{b d:Nat}{es:oz}{ks us:oQ}{ds:o5}(h1:S.m b=.map es)(h2:vS es=sS (ks,us))(h3:yn S.m b ks us d=.arr s (ds.map (·.map .d)))
  (F:∀(Z:oZ) (m:Hp),(∀k,Abs.look Z k=((Abs.look S.t k).fm b ks us).fz d s ds)->(∀i,m i=if i=d then .dead else(yn S.m b ks us i).fz d s ds)->K ⟨Z,m,S.n⟩):zZ S K g:=by
 apply zZ.mkM [b] [d];simp only[zHg,zJg,D5,DZ,h1,h2,h3,CV];exact F _ _ (λk=>by rw[iE,Ww]) (λi=>rfl)
def zJw(T:List TE)(s:Nat)(x:fD)(h:AP T)(hs:s<lN T)(hl:lN T<1000000000):
  q_ Pg 193 [.c (.ptr 0 0),.c (.d (.int .i64 s)),.c (.d (.str x))] (Nl T) (.a? [.c (.d (.int .i64 (jS T s x).2)),.c (.d (.int .i64 0))]) [.box [.x_ 2 3 0 (jS T s x).1.length,.map 2],.dead,.map (lU ((jS T s x).1.drop 1) 1),.arr 2 ((uQ (jS T s x).1).map (·.map .d))]:=by
 refine zpB ⟨oC,oC,oC,oC,oC,by simp[live],by simp[live]⟩ λts _e ok hb c hN hp=>?_;obtain⟨t,u,v,rfl⟩:=UD _e;have hn:(mH T s).length<1000000000:=by have:=h.few s;omega
 have hat:=zKU T s hs h.len;have hrow:=zIx h hs;have hrl:s<(uQ T).length:=uM hs;rw[aA hrl]at hrow;have hrow:=bu hrow;unfold zh9;simp;refine gN [0,1,2] hat ?_;by_cases hx:zF x (mH T s)=tT
 .have s0:s≠0:=λe=>by rw[e,h.zero]at hx;simp[zF]at hx
  rw[aB s0]at hrow;have ea:jS T s x=(T,s):=by unfold jS;rw[aC hx]
  rw[ea];let⟨q,w,hq⟩:=(Km (mH T s) 0 0).2 hx;rw[Kn hs]at hq;simp[hs,hrow,uP,hq];exact fJ [0,100,2,1] [3,4,5]
 have hst:=zpJ (s:=s) (x:=x) (T.drop 1) 1 0;have hstT:T.drop 1=T.tail:=oC;cases hk:Ay s x (T.drop 1) 1 with
 | some k=>
  have ea:jS T s x=(T,k):=by unfold jS;rw[aB hx,hk]
  rw[ea];rw[hk]at hst;let⟨q,hq⟩:=hst;rw[hstT]at hq;by_cases s0:s=0
  .rw[aC s0]at hrow;simp[hs,hrow,hq];exact fJ [0,100,2,1] [3,4,5]
  .rw[aB s0]at hrow;have hq2:=(Km (x:=x) (mH T s) 0 0).1 (uM hx);rw[Kn hs]at hq2;simp[hs,hrow,uP,hq2,hq];exact fJ [0,100,2,1] [3,4,5]
 | none=>
  have ea:jS T s x=(T++[(s,x,mH T s++[x])],lN T):=by unfold jS;rw[aB hx,hk]
  rw[ea];rw[hk]at hst;simp only at hst;rw[hstT]at hst;generalize hN:mH T s=N at*
  have hNn:(N++[x]).Nodup:=by
   have h1:=h.nodup _ (aO hs);rw[<-Kn hs,hN]at h1;rw[bK];refine⟨h1.1,oC,λa ha b hb e=>?_⟩;rw[aK]at hb;subst hb;subst e;exact hx (Ko.2 ha)
  generalize hM:N++[x]=M at*
  have hMl:lN M=lN N+1:=by rw[<-hM];simp
  have eM:(encS N++[[D.str x]])=encS M:=by rw[<-hM];simp[encS]
  have hnT:T[s].2.2=N:=by rw[<-Kn hs,hN]
  rcases Nat.eq_zero_or_pos s with s0|s0;rw[aC s0]at hrow;have hN0:N=[]:=by rw[<-hN,s0];exact h.zero
  simp[hs,hrow,hst];refine gN [] (zzL hN0) ?_;rotate_left;rw[aB oM]at hrow;have hq2:=(Km (x:=x) N 0 0).1 (uM hx);simp[hs,hrow,uP,hnT,hq2,hst];refine gN [] (zvw N oM) ?_
  all_goals
   simp[AC.one,z_];refine jV ?_;refine zCS hp T s x T.tail t u v M hNn oM (ms:=[0,1,2,3,4,5,6,7,8,9]) (by simp[hMl,Az,pI,kU,<-eM];exact aD oC) λZ z13 z0 z1 z2=>?_;simp[z13,z0,z1,z2,hst];refine zZ.mapArr (b:=8) (d:=7) (s:=1) (ds:=encS M) oC (zzM M) oC λY m hY hm=>?_;have em:m=r_ [.box [.x_ 2 1 0 (lN T),.map 2],.arr 2 ((uQ T).map (·.map .d)),.map (lU T.tail 1++[(.sc (.agg ⟨[.int .i64 s,.string x]⟩),.c (.d (.int .i64 (lN T))))]),.G_ t 0,.G_ u 1,.G_ v 2,.dead,.dead,.dead,.box ((uP (s,x,M)).map .d)]:=funext λi=>by
    rw[hm]
    match i with
    |0=>simp
    |1=>simp
    |2=>simp
    |3=>simp
    |4=>simp
    |5=>simp
    |6=>simp
    |7=>simp
    |8=>simp
    |9=>simp[uP,encS];exact aD oC
    |i+10=>simp[r_]
   subst em;have y13:Abs.look Y 13=.c (.ptr 9 0):=by rw[hY];simp[z13]
   have y0:Abs.look Y 0=.c (.ptr 0 0):=by rw[hY];simp[z0]
   have y11:Abs.look Y 11=.c (.d (.int .i64 (lN T))):=by rw[hY];simp
   clear hY hm;simp[y13,y0,y11];refine⟨oM,oD,?_⟩;have e1:(T++[(s,x,M)]).tail=T.tail++[(s,x,M)]:=by
    rw[<-drop_one,<-drop_one,zCP h.ne]
   have e2:lU (T.tail++[(s,x,M)]) 1=lU T.tail 1++[(.sc (.agg ⟨[.int .i64 s,.string x]⟩),.c (.d (.int .i64 (lN T))))]:=by
    rw[zvy];simp[lU];have:=h.ne;omega
   exact fK [0,100,2,10] [3,4,5] (by simp[zFk,zCQ h.ne,e1,e2])
def T0:List TE:=[(0,bs [],[])]
def zIu:AP T0:=⟨by simp[T0],rfl,by simp[T0],λe he=>by simp[T0]at he;subst he;simp[T0]⟩
def zJR:q_ Pg 25 [] [] (.c (.ptr 2 0)) [.arr 2 ((uQ T0).map (·.map .d)),.map [],.box [.x_ 2 0 0 1,.map 1]]:=by
 refine zxu ⟨oC,oC,oC,oC,oC,by simp[live],by simp[live]⟩ λts _e ok hb c hN hp=>?_;obtain rfl:=EB _e;simp[zn4];apply fT [];simp;exact fK [0,1,2] [] (by simp[T0,uQ])
def zwq:∀(ns:List fD) (T:List TE) (s:Nat),AP T->s<lN T->lN T+lN ns<=1000000000->AP (pq T s ns).1/\(pq T s ns).2<(pq T s ns).1.length/\(pq T s ns).1.length<=lN T+lN ns
|[],T,s,h,hs,hl=>⟨h,hs,by simp[pq]⟩
|x::ns,T,s,h,hs,hl=>by
 simp only[length_cons]at hl;let⟨g1,g2,g3,g4⟩:=zvx h hs x oM;have ih:=zwq ns _ _ g1 g2 oM;unfold pq;simp only[length_cons];exact⟨ih.1,ih.2.1,oM⟩
def zJS(T:List TE)(ns:oN)(h:AP T)(hl:lN T+lN ns<=1000000000):
  q_ Pg 169 [.c (.ptr 0 0),.c (.d (.sl oK 1 (encS ns)))] (Nl T) (.a? [.c (.d (.int .i64 (pq T 0 ns).2)),.c (.d (.int .i64 0))]) [.box [.x_ 2 3 0 (pq T 0 ns).1.length,.map 2],.dead,.map (lU ((pq T 0 ns).1.drop 1) 1),.arr 2 ((uQ (pq T 0 ns).1).map (·.map .d))]:=by
 refine zqX ⟨oC,oC,oC,oC,oC,by simp[live],by simp[live]⟩ λts _e ok hb c hN hp=>?_;obtain⟨t,u,v,rfl⟩:=UD _e;let⟨R,hR⟩:=oJ (pq T 0 ns);rw[hR];simp[zi4];refine fM gm hp (λY:Nat × List TE × Nat=>Y.1<=lN ns/\AP Y.2.1/\Y.2.2<lN Y.2.1/\lN Y.2.1+(lN ns-Y.1)<=1000000000/\pq Y.2.1 Y.2.2 (ns.drop Y.1)=R) (λY=>[(13,.c (.d (.int .i64 Y.1))),(12,.c (.d (.int .i64 (lN ns)))),(11,.c (.d (.sl oK 1 (encS ns)))),(6,.c (.d (.int .i64 Y.2.2))),(0,.c (.ptr 0 0))]) (λY=>[.box [.x_ 2 2 0 (lN Y.2.1),.map 1],.map (lU (Y.2.1.drop 1) 1),.arr 2 ((uQ Y.2.1).map (·.map .d)),.G_ t 0,.G_ v 1]) (λY=>lN ns-Y.1) (0,T,0) [0,2,1,3,5] ⟨oC,h,h.ne,uM hl,hR⟩ (by simp[encS]) λ⟨i,T1,s⟩ ⟨i1,i2,i3,i4,i5⟩=>?_;unfold zhB;simp only at i1 i2 i3 i4 i5;simp;apply gM<;>intro q
 .have hi:i<lN ns:=uM q;rw[aF hi,pq]at i5;have hA:=zJw T1 s ns[i] i2 i3 oM;let⟨g1,g2,g3,g4⟩:=zvx i2 i3 ns[i] oM;generalize jS T1 s ns[i]=A at*
  simp[hi,encS];apply gN [0,2,1] hA;simp;apply fE (i+1,A.1,A.2) [0,1,5,3,4] ⟨Nat.succ_le_of_lt hi,g1,g2,qM,i5⟩ qM;simp;exact wI
 .have hi:i=lN ns:=oI q;subst hi;rw[aS]at i5;simp only[pq]at i5;subst i5;simp;exact fJ [0,100,1,2] [3,100,4]
variable {α:Type}
@[simp] def q9:List Nat:=[100,101,102,103,104,105,106,107,108,109,110,111]
@[simp] def qZ:List Nat:=[0,101,2,103,104,105,106,7,8,9,10,11,112,13,14,30,31,32,33,34,35]
@[simp] def qY:List Nat:=[0,101,2,103,104,105,106,7,8,9,10,11,112,13,14,35,30,31,32,33,34]
@[simp] def qX:List Nat:=[0,1,2,30,31,32,33,7,8,9,10,11,34,13]
@[simp] def qW:List Nat:=[14,15,16,17,18,19,20,21,22,23,24,25,26,27]
@[simp] def qV:List Nat:=[2,3,4,5,6,7,8,9,10,11,12,13]
@[simp] def qU:List Nat:=[12,13,14,15,16,17,18,19,20,21,22,23]
@[simp] def qR:List Nat:=[0,1,2,3,4,5,6,7,8,9,10,11,12,13,14]
@[simp] def qQ:List Nat:=[0,101,2,103,104,105,106,7,8,9,10,11,112,13,14,30,3,4,5,6,12]
@[simp] def qP:List Nat:=[0,1,2,3,4,5,6,7,8,9,10,11,12,13]
@[simp] def qO:List Nat:=[100,101,102,103,104,105,106,107,108,109,110,111,112,113,114]
@[simp] def qN:List Nat:=[15,16,17,18,19,20,21,22,23,24,25,26,27,28,29]
structure iT where
 ints:List Int
 L?:List fD
 T:List TE
 ks:List Nat
 J_:List (List fD)
 cos:List gT
 procs:List jv
def mX[DecidableEq α](x:α):List α->Nat->Option Nat
|[],_=>nN
|y::l,i=>if x=y then sS i else mX x l (i+1)
def kM:List D->Nat->List (D × AV)
|[],_=>[]
|k::l,i=>(k,.c (.d (.int .i64 i)))::kM l (i+1)
@[simp] theorem zKE(f:Nat->Nat):∀(l:oQ) (i:Nat),(kM l i).map (λe=>(e.1,AV.N_ f e.2))=kM l i
|[],i=>rfl
|e::l,i=>by simp[kM,zKE f l (i+1)]
@[simp] theorem zLA(n:Nat):∀(l:oQ) (i:Nat),(kM l i).all (λe=>AV.lt n e.2)=tT
|[],i=>rfl
|e::l,i=>by simp[kM,zLA n l (i+1)]
@[simp] theorem zLB(p:Nat->Bool):∀(l:oQ) (i:Nat),(kM l i).all (λe=>AV.lv p e.2)=tT
|[],i=>rfl
|e::l,i=>by simp[kM,zLB p l (i+1)]
def Nn:∀(l r:List D) (i:Nat),kM (l++r) i=kM l i++kM r (i+lN l)
|[],r,i=>by simp[kM]
|e::l,r,i=>by
 simp only[cons_append,kM,Nn l r (i+1),length_cons];rw[show i+1+lN l=i+(lN l+1) by omega]
def Np[DecidableEq α]{kk:Nat}{f:α->D}(hf:∀x y,vP kk (f x) (f y)=sS (decide (x=y))){x:α}:∀(l:List α) (i j:Nat),match mX x l i with
 |none=>d? kk (f x) (kM (l.map f) i) j=sS nN
 |some k=>∃q,d? kk (f x) (kM (l.map f) i) j=sS (sS (q,.c (.d (.int .i64 k))))
|[],i,j=>by simp[mX,kM,d?]
| y::l,i,j=>by
 have ih:=Np hf (x:=x) l (i+1) (j+1);unfold mX;by_cases h:x=y
 .rw[aC h];exact⟨j,by subst h;simp only[kM,map_cons,d?,hf];simp⟩
 .rw[aB h];have e1:d? kk (f x) (kM ((y::l).map f) i) j=d? kk (f x) (kM (l.map f) (i+1)) (j+1):=by simp only[kM,map_cons,d?,hf];simp[h]
  rw[e1];exact ih
def UF[DecidableEq α]{x:α}:∀{l:List α} {i k:Nat},mX x l i=sS k->i<=k/\k<i+lN l
|[],i,k,h=>by simp[mX]at h
| y::l,i,k,h=>by
 unfold mX at h;split at h
 .cases h;simp
 .have:=UF h;simp only[length_cons];omega
def nV(l:List oN):o5:=l.map λn=>[.sl oK 1 (encS n)]
abbrev vI(G:iT)(i s h o p im sm tr hm:Nat):A_:=.box [.x_ 1 i 0 (lN G.ints),.x_ 1 s 0 (lN G.L?),.x_ 1 h 0 (lN G.J_),.x_ 5 o 0 (lN G.cos),.x_ 3 p 0 (lN G.procs),.d (.int .i64 0),.d (.bool oK),.map im,.map sm,.ptr tr 0,.map hm]
abbrev iA(G:iT):A_:=.arr 1 ((encI G.ints).map (·.map .d))
abbrev sA(G:iT):A_:=.arr 1 ((encS G.L?).map (·.map .d))
abbrev hA(G:iT):A_:=.arr 1 ((nV G.J_).map (·.map .d))
abbrev oA(G:iT):A_:=.arr 5 ((G.cos.map gT.enc).map (·.map .d))
abbrev pA(G:iT):A_:=.arr 3 ((G.procs.map jv.enc).map (·.map .d))
abbrev iM(G:iT):A_:=.map (kM (G.ints.map λn=>.int .i64 n) 0)
abbrev sM(G:iT):A_:=.map (kM (G.L?.map .str) 0)
abbrev hM(G:iT):A_:=.map (kM (G.ks.map λn:Nat=>.int .i64 n) 0)
abbrev rA(G:iT):A_:=.arr 2 ((uQ G.T).map (·.map .d))
abbrev Cw(G:iT):A_:=.map (lU (G.T.drop 1) 1)
abbrev EC(G:iT):oV:=[vI G 1 2 3 4 5 6 7 8 9,iA G,sA G,hA G,oA G,pA G,iM G,sM G,.box [.x_ 2 10 0 (lN G.T),.map 11],hM G,rA G,Cw G]
abbrev Gc(G:iT):oV:=[vI G 12 13 14 15 5 6 7 8 9,.dead,.dead,.dead,.dead,pA G,iM G,sM G,.box [.x_ 2 16 0 (lN G.T),.map 11],hM G,.dead,Cw G,iA G,sA G,hA G,oA G,rA G]
def Ez{ts:o6}{a b c d e f g h i j k l:A_}(q:lN ts=[a,b,c,d,e,f,g,h,i,j,k,l].length):∃a b c d e f g h i j k l,ts=[a,b,c,d,e,f,g,h,i,j,k,l]:=by
 match ts,q with
 |[a,b,c,d,e,f,g,h,i,j,k,l],_=>exact⟨a,b,c,d,e,f,g,h,i,j,k,l,rfl⟩
def kF(G:iT)(n:Int):iT × Nat:=match mX n G.ints 0 with
|some k=>(G,k)
|none=>({G with ints:=G.ints++[n]},lN G.ints)
def iR(G:iT)(s:fD):iT × Nat:=match mX s G.L? 0 with
|some k=>(G,k)
|none=>({G with L?:=G.L?++[s]},lN G.L?)
def Nq(l:oW):take (lN l) (List.map (λx=>List.map AC.d x) (encI l))=List.map (λx=>List.map AC.d x) (encI l):=aD (by simp[encI])
def UG(l:oW)(n:Int):encI (l++[n])=encI l++[[.int .i64 n]]:=by simp[encI]
def zHH(G:iT)(n:Int)(hl:lN G.ints<=1000000000):q_ Pg 171 [.c (.map 6),.c (.d (.int .i64 n)),.c (.ptr 0 0),.c (.d (.int .i64 n))] (EC G) (.c (.d (.int .i64 (kF G n).2))) (Gc (kF G n).1):=by
 refine zlS ⟨oC,oC,oC,oC,oC,by simp[live],by simp[live]⟩ λts _e ok hb c hN hp=>?_;obtain⟨t0,t1,t2,t3,t4,t5,t6,t7,t8,t9,t10,t11,rfl⟩:=Ez _e;have hf:=Np (kk:=0) (f:=λn:Int=>D.int .i64 n) (λx y=>by simp[vP]) (x:=n) G.ints 0 0;unfold zga;cases hk:mX n G.ints 0 with
 |some k=>
  rw[hk]at hf;let⟨q,hq⟩:=hf;have e:kF G n=(G,k):=by unfold kF;rw[hk]
  rw[e];simp[hq];exact fJ [0,100,101,102,103,5,6,7,8,9,104,11,1,2,3,4,10] qU
 |none=>
  rw[hk]at hf;have e:kF G n=({G with ints:=G.ints++[n]},lN G.ints):=by unfold kF;rw[hk]
  rw[e];simp only at hf;simp[hf];refine jV ?_;exact fK [0,100,101,102,103,5,6,7,8,9,104,11,24,2,3,4,10] qU (by simp[Nq,UG,Nn,kM])
def zJy(l:oN):take (lN l) (List.map (λx=>List.map AC.d x) (encS l))=List.map (λx=>List.map AC.d x) (encS l):=aD (by simp[encS])
def zFl(l:oN)(n:fD):encS (l++[n])=encS l++[[.str n]]:=by simp[encS]
def zJz(l:List oN):take (lN l) (List.map (λx=>List.map AC.d x) (nV l))=List.map (λx=>List.map AC.d x) (nV l):=aD (by simp[nV])
def zFm(l:List oN)(n:oN):nV (l++[n])=nV l++[[.sl oK 1 (encS n)]]:=by simp[nV]
def uR(G:iT)(k:Nat)(ns:oN):iT × Nat:=match mX k G.ks 0 with
|some j=>(G,j)
|none=>({G with J_:=G.J_++[ns],ks:=G.ks++[k]},lN G.ks)
def zHI(G:iT)(n:fD)(hl:lN G.L?<=1000000000):q_ Pg 123 [.c (.map 7),.c (.d (.str n)),.c (.ptr 0 1),.c (.d (.str n))] (EC G) (.c (.d (.int .i64 (iR G n).2))) (Gc (iR G n).1):=by
 refine zhX ⟨oC,oC,oC,oC,oC,by simp[live],by simp[live]⟩ λts _e ok hb c hN hp=>?_;obtain⟨t0,t1,t2,t3,t4,t5,t6,t7,t8,t9,t10,t11,rfl⟩:=Ez _e;have hf:=Np (kk:=1) (f:=λn:fD=>D.str n) (λx y=>by simp[vP]) (x:=n) G.L? 0 0;unfold zd6;cases hk:mX n G.L? 0 with
 |some k=>
  rw[hk]at hf;let⟨q,hq⟩:=hf;have e:iR G n=(G,k):=by unfold iR;rw[hk]
  rw[e];simp[hq];exact fJ [0,100,101,102,103,5,6,7,8,9,104,11,1,2,3,4,10] qU
 |none=>
  rw[hk]at hf;have e:iR G n=({G with L?:=G.L?++[n]},lN G.L?):=by unfold iR;rw[hk]
  rw[e];simp only at hf;simp[hf];refine jV ?_;exact fK [0,100,101,102,103,5,6,7,8,9,104,11,1,24,3,4,10] qU (by simp[zJy,zFl,Nn,kM])
def zHJ(G:iT)(n:Nat)(ns:oN)(hq:lN G.ks=lN G.J_)(hl:lN G.ks<=1000000000):q_ Pg 170 [.c (.map 9),.c (.d (.int .i64 n)),.c (.ptr 0 2),.c (.d (.sl oK 1 (encS ns)))] (EC G) (.c (.d (.int .i64 (uR G n ns).2))) (Gc (uR G n ns).1):=by
 refine zju ⟨oC,oC,oC,oC,oC,by simp[live],by simp[live]⟩ λts _e ok hb c hN hp=>?_;obtain⟨t0,t1,t2,t3,t4,t5,t6,t7,t8,t9,t10,t11,rfl⟩:=Ez _e;have hf:=Np (kk:=0) (f:=λn:Nat=>D.int .i64 n) (λx y=>by simp[vP];omega) (x:=n) G.ks 0 0;unfold ze8;cases hk:mX n G.ks 0 with
 |some k=>
  rw[hk]at hf;let⟨q,hf⟩:=hf;have e:uR G n ns=(G,k):=by unfold uR;rw[hk]
  rw[e];simp[hf];exact fJ [0,100,101,102,103,5,6,7,8,9,104,11,1,2,3,4,10] qU
 |none=>
  rw[hk]at hf;have e:uR G n ns=({G with J_:=G.J_++[ns],ks:=G.ks++[n]},lN G.ks):=by unfold uR;rw[hk]
  rw[e];simp only at hf;simp[hf];refine⟨by simp[nV],oM,?_⟩;exact fK [0,100,101,102,103,5,6,7,8,9,104,11,1,2,24,4,10] qU (by simp[zJz,zFm,Nn,kM,hq])
def zKF(G:iT)(n:Int)(hl:lN G.ints<=1000000000):q_ Pg 124 [.c (.ptr 0 0),.c (.d (.int .i64 n))] (EC G) (.c (.d (.int .i64 (kF G n).2))) (Gc (kF G n).1):=by
 refine zsp ⟨oC,oC,oC,oC,oC,by simp[live],by simp[live]⟩ λts _e ok hb c hN hp=>?_;obtain⟨t0,t1,t2,t3,t4,t5,t6,t7,t8,t9,t10,t11,rfl⟩:=Ez _e;have hF:=zHH G n hl;generalize kF G n=R at*
 simp[zjQ];apply gN [0,1,2,3,4,5,6,7,8,9,10,11] hF;simp;refine⟨by rfl,?_⟩;exact fJ [0,100,101,102,103,5,6,7,8,9,104,11,24,25,26,27,28] qU
def UH(G:iT)(n:fD)(hl:lN G.L?<=1000000000):q_ Pg 78 [.c (.ptr 0 0),.c (.d (.str n))] (EC G) (.c (.d (.int .i64 (iR G n).2))) (Gc (iR G n).1):=by
 refine zsq ⟨oC,oC,oC,oC,oC,by simp[live],by simp[live]⟩ λts _e ok hb c hN hp=>?_;obtain⟨t0,t1,t2,t3,t4,t5,t6,t7,t8,t9,t10,t11,rfl⟩:=Ez _e;have hF:=zHI G n hl;generalize iR G n=R at*
 simp[zjR];apply gN [0,1,2,3,4,5,6,7,8,9,10,11] hF;simp;refine⟨by rfl,?_⟩;exact fJ [0,100,101,102,103,5,6,7,8,9,104,11,24,25,26,27,28] qU
def zJA(l:sN):take (lN l) (List.map ((λx=>List.map AC.d x)∘gT.enc) l)=List.map ((λx=>List.map AC.d x)∘gT.enc) l:=aD oC
def zLC(G:iT)(x:gT)(hl:lN G.cos<=1000000000):q_ Pg 125 [.c (.ptr 0 0),.ag (x.enc.map .d)] (EC G) (.c (.d (.int .i64 (lN G.cos)))) (Gc {G with cos:=G.cos++[x]}):=by
 refine ztH ⟨oC,oC,oC,oC,oC,by simp[live],by simp[live]⟩ λts _e ok hb c hN hp=>?_;obtain⟨t0,t1,t2,t3,t4,t5,t6,t7,t8,t9,t10,t11,rfl⟩:=Ez _e;simp[zkT];refine⟨oM,oM,by rfl,?_⟩;rw[wI];exact fK [0,100,101,102,103,5,6,7,8,9,104,11,1,2,3,24,10] qU (by simp[zJA])
def xY(G:iT)(ns:oN):iT × Nat:=uR {G with T:=(pq G.T 0 ns).1} (pq G.T 0 ns).2 ns
def zJB(G:iT)(ns:oN)(hT:AP G.T)(hn:lN G.T+lN ns<=1000000000)(hq:lN G.ks=lN G.J_)(hl:lN G.ks<=1000000000):q_ Pg 122 [.c (.ptr 0 0),.c (.d (.sl oK 1 (encS ns)))] (EC G) (.c (.d (.int .i64 (xY G ns).2))) (Gc (xY G ns).1):=by
 refine zqY ⟨oC,oC,oC,oC,oC,by simp[live],by simp[live]⟩ λts _e ok hb c hN hp=>?_;obtain⟨t0,t1,t2,t3,t4,t5,t6,t7,t8,t9,t10,t11,rfl⟩:=Ez _e;have hO:=zJS G.T ns hT hn;unfold xY;generalize pq G.T 0 ns=A at*
 have hF:=zHJ {G with T:=A.1} A.2 ns hq hl;generalize uR {G with T:=A.1} A.2 ns=R at*
 simp[zi5];apply gN [8,10,11] hO;simp;apply gN [0,1,2,3,4,5,6,7,8,9,24,11] hF;simp;refine⟨by rfl,?_⟩;exact fJ [0,100,101,102,103,5,6,7,8,9,104,11,25,26,27,28,29] qU
variable {ts:List (Nat × Nat)}{a b c d e f g h i j k l m n:A_}
structure o? where
 p_:Int
 code:List Ins
 G:iT
def Gd:Value:=.iface 90 (.agg #[])
abbrev Bt(r:Int)(cb n:Nat):A_:=.box [.ptr 2 0,.d (.int .i64 r),.x_ 4 cb 0 n]
abbrev cA(l:List Ins):A_:=.arr 4 ((l.map Ins.enc).map (·.map .d))
abbrev tB(G:iT)(r s:Nat):A_:=.box [.x_ 2 r 0 (lN G.T),.map s]
abbrev Im(P:o?):oV:=[Bt P.p_ 1 (lN P.code),cA P.code,vI P.G 3 4 5 6 7 8 9 10 11,iA P.G,sA P.G,hA P.G,oA P.G,pA P.G,iM P.G,sM P.G,tB P.G 12 13,hM P.G,rA P.G,Cw P.G]
abbrev Nr:oV:=[.dead,.dead,.dead,.dead,.dead,.dead,.dead,.dead,.dead,.dead,.dead,.dead,.dead,.dead]
def zsG{ts:o6}(q:lN ts=[a,b,c,d,e,f,g,h,i,j,k,l,m,n].length):∃a b c d e f g h i j k l m n,ts=[a,b,c,d,e,f,g,h,i,j,k,l,m,n]:=by
 match ts,q with
 |[a,b,c,d,e,f,g,h,i,j,k,l,m,n],_=>exact⟨a,b,c,d,e,f,g,h,i,j,k,l,m,n,rfl⟩
def mY(P:o?)(r:Int):o?:={P with p_:=zR tT P.p_ (r+1)}
def zKj(P:o?)(r:Int)(h0:0<=r)(h1:r<=1000000000000):jM Pg 47 [.c (.ptr 0 0),.c (.d (.int .i64 r))] (Im P) (if 256<(mY P r).p_ then .pan Gd else .ret (.a? [])) (if 256<(mY P r).p_ then Nr else Im (mY P r)):=by
 refine zqZ ?_ λts _e ok hb c hN hp=>?_
 .by_cases q:256<(mY P r).p_
  .simp only[aC q];exact⟨oC,oC,oC,oC,oC,by simp[live],by simp[live]⟩
  .simp only[aB q];exact⟨oC,oC,oC,oC,oC,by simp[live],by simp[live]⟩
 obtain⟨t0,t1,t2,t3,t4,t5,t6,t7,t8,t9,t10,t11,t12,t13,rfl⟩:=zsG _e;simp[zi6];rw[wI];apply gM<;>intro q
 .have q':256<(mY P r).p_:=by simpa[mY]using q
  simp only[aC q'];exact gK [100,101,102,103,104,105,106,107,108,109,110,111,112,113] qW oC
 .have q':¬256<(mY P r).p_:=by simpa[mY]using q
  simp only[aB q'];exact fK qP qW (by simp[mY])
def Io(P:o?)(x:Ins):o?:={P with code:=P.code++[x]}
def zI6(l:List Ins):take (lN l) (List.map ((λx=>List.map AC.d x)∘Ins.enc) l)=List.map ((λx=>List.map AC.d x)∘Ins.enc) l:=aD oC
abbrev pBe(P:o?)(i:Int):oV:=[Bt P.p_ 14 (lN P.code),.dead,vI P.G 3 4 5 6 7 8 9 10 11,iA P.G,sA P.G,hA P.G,oA P.G,pA P.G,iM P.G,sM P.G,tB P.G 12 13,hM P.G,rA P.G,Cw P.G,cA P.code,.box [.ptr 0 0],.box [.d (.int .i64 i)]]
def zI7(P:o?)(x:Ins):jM Pg 49 [.c (.ptr 0 0),.c (.d (.int .i64 x.op)),.c (.d (.int .i64 x.a)),.c (.d (.int .i64 x.b)),.c (.d (.int .i64 x.c))] (Im P) (if 65536<=lN P.code then .pan Gd else .ret (.c (.fn (.func 80) [.ptr 15 0,.ptr 16 0]))) (if 65536<=lN P.code then Nr else pBe (Io P x) (lN P.code)):=by
 refine zpC ?_ λts _e ok hb c hN hp=>?_
 .by_cases q:65536<=lN P.code
  .simp only[aC q];exact⟨oC,oC,oC,oC,oC,by simp[live],by simp[live]⟩
  .simp only[aB q];exact⟨oC,oC,oC,oC,oC,by simp[live],by simp[live]⟩
 obtain⟨t0,t1,t2,t3,t4,t5,t6,t7,t8,t9,t10,t11,t12,t13,rfl⟩:=zsG _e;simp[zia];apply gM<;>intro q
 .have q':65536<=lN P.code:=oI q;simp only[aC q'];exact gK [100,101,102,103,104,105,106,107,108,109,110,111,112,113] qW oC
 .have q':¬65536<=lN P.code:=oI q;simp only[aB q'];refine⟨oM,by rfl,?_⟩;exact fK [0,100,2,3,4,5,6,7,8,9,10,11,12,13,30,28,29] qW (by simp[Io,zI6];rfl)
def pJ(x:Ins)(n:Int):Ins:={x with b:=n}
def wF(n:Int):List Ins->Nat->List Ins
|[],_=>[]
|x::l,0=>pJ x n::l
|x::l,i+1=>x::wF n l i
def kN(P:o?)(i:Nat):o?:={P with code:=wF (lN P.code) P.code i}
@[simp] theorem zG2(n:Int):∀(l:List Ins) (i:Nat),(wF n l i).length=lN l
|[],_=>rfl
|_::_,0=>rfl
|_::l,i+1=>by simp[wF,zG2 n l i]
def zI8(x:Ins)(n:Int):put (List.map AC.d x.enc) 2 [AC.d (D.int IntKind.i64 n)]=List.map AC.d (pJ x n).enc:=by simp[put,Ins.enc,pJ]
def zxN(n:Int):∀(l:List Ins) (i:Nat) (h:i<lN l),List.map ((λx=>List.map AC.d x)∘Ins.enc) (wF n l i)=(List.map ((λx=>List.map AC.d x)∘Ins.enc) l).set i (List.map AC.d (pJ l[i] n).enc)
|x::l,0,h=>by simp[wF]
|x::l,i+1,h=>by simp[wF,zxN n l i (uM h)]
def zEw{ts:o6}{o p:A_}(q:lN ts=[a,b,c,d,e,f,g,h,i,j,k,l,m,n,o,p].length):∃a b c d e f g h i j k l m n o p,ts=[a,b,c,d,e,f,g,h,i,j,k,l,m,n,o,p]:=by
 match ts,q with
 |[a,b,c,d,e,f,g,h,i,j,k,l,m,n,o,p],_=>exact⟨a,b,c,d,e,f,g,h,i,j,k,l,m,n,o,p,rfl⟩
abbrev pBf(P:o?)(i:Int):oV:=[Bt P.p_ 1 (lN P.code),cA P.code,vI P.G 3 4 5 6 7 8 9 10 11,iA P.G,sA P.G,hA P.G,oA P.G,pA P.G,iM P.G,sM P.G,tB P.G 12 13,hM P.G,rA P.G,Cw P.G,.box [.ptr 0 0],.box [.d (.int .i64 i)]]
def zxO(P:o?)(i:Nat)(h:i<lN P.code):q_ Pg 80 [.c (.ptr 14 0),.c (.ptr 15 0)] (pBf P i) (.a? []) (pBf (kN P i) i):=by
 refine zni ⟨oC,oC,oC,oC,oC,by simp[live],by simp[live]⟩ λts _e ok hb c hN hp=>?_;obtain⟨t0,t1,t2,t3,t4,t5,t6,t7,t8,t9,t10,t11,t12,t13,t14,t15,rfl⟩:=zEw _e;simp[zgB];refine⟨h,?_⟩;rw[aA h];simp only[Option.map_some];refine⟨by rfl,?_⟩;exact fK [0,1,2,3,4,5,6,7,8,9,10,11,12,13,14,15] [16,17,18,19,20,21,22,23,24,25,26,27,28,29,30,31] (by simp[kN,zxN _ _ _ h,zI8])
end Go.Gr
namespace Go.Gr
open Go.Abs Go.Proofs
variable {α:Type}{P:Program}{f:FuncId}{vs args:List AV}{m:Hp}{n:Nat}{Kp:Value->List (Nat × A_)->Nat->Prop}{dd:List A_}{v:AV}{R:o?}
@[simp] theorem n_.get2(c:n_)(h:2<lN c.enc):c.enc[2]=.str c.text:=by simp only[c.l_];rfl
@[simp] theorem n_.get4(c:n_)(h:4<lN c.enc):c.enc[4]=.sl oK 1 (encS c.a_):=by simp only[c.l_];rfl
@[simp] theorem n_.get6(c:n_)(h:6<lN c.enc):c.enc[6]=.sl oK 5 (c.cos.map gT.enc):=by simp only[c.l_];rfl
def ED(Q:Option α)(v:AV):XO:=match Q with
|none=>.pan Gd
|some _=>.ret v
def xB(Q:Option α)(B:α->oV)(dd:oV):oV:=match Q with
|none=>dd
|some x=>B x
@[simp] theorem zMv(x:α)(v:AV):ED (sS x) v=.ret v:=rfl
@[simp] theorem zMw(v:AV):ED (nN:Option α) v=.pan Gd:=rfl
@[simp] theorem zNb(x:α)(B:α->oV)(dd:oV):xB (sS x) B dd=B x:=rfl
@[simp] theorem zNc(B:α->oV)(dd:oV):xB nN B dd=dd:=rfl
def lg{vs:oo}{K:AV->oU->Nat->Prop}{Kp:Value->oU->Nat->Prop}{g:Tag (K,Kp)}(l:oO){args:oo}{bs:oV}{Q:Option α}{B:α->oV}{dd:oV}(h:jM P f args bs (ED Q v) (xB Q B dd))
  (hs:l.Nodup/\(∀i,i∈l->i<n)/\vs=AV.b? (Z' l) args/\AV.lts (lN l) args=tT/\(∀b,b∈bs->b.lt (lN l)=tT)/\p8 m (Z' l) l bs)
  (k:∀x,Q=sS x->xq m n ((B x).length-lN bs)/\K (v.N_ (Z' (l++S_ n ((B x).length-lN bs)))) (ng (Z' (l++S_ n ((B x).length-lN bs))) (l++S_ n ((B x).length-lN bs)) (B x)) (n+((B x).length-lN bs)))
  (kp:Q=nN->xq m n (lN dd-lN bs)/\Kp Gd (ng (Z' (l++S_ n (lN dd-lN bs))) (l++S_ n (lN dd-lN bs)) dd) (n+(lN dd-lN bs))):IK P f vs m n K Kp g:=by
 let⟨a,b,c,d,e,f'⟩:=hs;cases Q with
 |none=>
  let⟨z,k1⟩:=kp rfl;refine IK.mk l h ⟨a,b,c,d,e,f',z⟩ (λv h=>by cases h) (λv h=>?_);cases h;exact k1
 |some x=>
  let⟨z,k1⟩:=k x rfl;refine IK.mk l h ⟨a,b,c,d,e,f',z⟩ (λv h=>?_) (λv h=>by cases h);cases h;exact k1
def FB{vs:oo}{K:AV->oO->oU->Nat->Prop}{Kp:Value->oU->Nat->Prop}{g:Tag (K,Kp)}(l:oO){args:oo}{bs:oV}{Q:Option α}{B:α->oV}{dd:oV}(h:jM P f args bs (ED Q v) (xB Q B dd))
  (hs:l.Nodup/\(∀i,i∈l->i<n)/\vs=AV.b? (Z' l) args/\AV.lts (lN l) args=tT/\(∀b,b∈bs->b.lt (lN l)=tT)/\p8 m (Z' l) l bs)
  (k:∀x,Q=sS x->xq m n ((B x).length-lN bs)/\K (v.N_ (Z' (l++S_ n ((B x).length-lN bs)))) [] (ng (Z' (l++S_ n ((B x).length-lN bs))) (l++S_ n ((B x).length-lN bs)) (B x)) (n+((B x).length-lN bs)))
  (kp:Q=nN->xq m n (lN dd-lN bs)/\Kp Gd (ng (Z' (l++S_ n (lN dd-lN bs))) (l++S_ n (lN dd-lN bs)) dd) (n+(lN dd-lN bs))):IL P f vs m n K Kp g:=by
 let⟨a,b,c,d,e,f'⟩:=hs;cases Q with
 |none=>
  let⟨z,k1⟩:=kp rfl;refine IL.mk l h ⟨a,b,c,d,e,f',z⟩ (λv h=>by cases h) (λv h=>?_);cases h;exact k1
 |some x=>
  let⟨z,k1⟩:=k x rfl;refine IL.mk l h ⟨a,b,c,d,e,f',z⟩ (λv h=>?_) (λv h=>by cases h);cases h;exact k1
def mZ(P:o?)(r:Int):Option o?:=if 256<(mY P r).p_ then nN else sS (mY P r)
def iY(P:o?)(x:Ins):Option o?:=if 65536<=lN P.code then nN else sS (Io P x)
def Gf(P:o?)(r:Int)(h0:0<=r)(h1:r<=1000000000000):jM Pg 47 [.c (.ptr 0 0),.c (.d (.int .i64 r))] (Im P) (ED (mZ P r) (.a? [])) (xB (mZ P r) Im Nr):=by
 have h:=zKj P r h0 h1;unfold mZ;by_cases q:256<(mY P r).p_
 .simp only[aC q]at h⊢;exact h
 .simp only[aB q]at h⊢;exact h
def tQ(P:o?)(x:Ins):jM Pg 49 [.c (.ptr 0 0),.c (.d (.int .i64 x.op)),.c (.d (.int .i64 x.a)),.c (.d (.int .i64 x.b)),.c (.d (.int .i64 x.c))] (Im P) (ED (iY P x) (.c (.fn (.func 80) [.ptr 15 0,.ptr 16 0]))) (xB (iY P x) (λR=>pBe R (lN P.code)) Nr):=by
 have h:=zI7 P x;unfold iY;by_cases q:65536<=lN P.code
 .simp only[aC q]at h⊢;exact h
 .simp only[aB q]at h⊢;exact h
def Ip{P:o?}{r:Int}(h:mZ P r=sS R):R.G=P.G/\R.code=P.code:=by
 unfold mZ at h;split at h
 .cases h
 .cases h;exact⟨rfl,rfl⟩
def nJ{P:o?}{x:Ins}(h:iY P x=sS R):R.G=P.G/\R.p_=P.p_:=by
 unfold iY at h;split at h
 .cases h
 .cases h;exact⟨rfl,rfl⟩
abbrev vA(vs:oW):A_:=.arr 1 ((encI vs).map (·.map .d))
abbrev Iq(P:o?)(vs:oW):oV:=[Bt P.p_ 1 (lN P.code),cA P.code,vI P.G 3 4 5 6 7 8 9 10 11,iA P.G,sA P.G,hA P.G,oA P.G,pA P.G,iM P.G,sM P.G,tB P.G 12 13,hM P.G,rA P.G,Cw P.G,vA vs]
abbrev pVz(vs:oW)(P:o?):oV:=[Bt P.p_ 15 (lN P.code),.dead,vI P.G 16 17 18 19 7 8 9 10 11,.dead,.dead,.dead,.dead,pA P.G,iM P.G,sM P.G,tB P.G 20 13,hM P.G,.dead,Cw P.G,vA vs,cA P.code,iA P.G,sA P.G,hA P.G,oA P.G,rA P.G]
abbrev zJ8:oV:=[.dead,.dead,.dead,.dead,.dead,.dead,.dead,.dead,.dead,.dead,.dead,.dead,.dead,.dead,.dead]
def Kq{ts:o6}{a b c d e f g h i j k l m n o:A_}(q:lN ts=[a,b,c,d,e,f,g,h,i,j,k,l,m,n,o].length):∃a b c d e f g h i j k l m n o,ts=[a,b,c,d,e,f,g,h,i,j,k,l,m,n,o]:=by
 match ts,q with
 |[a,b,c,d,e,f,g,h,i,j,k,l,m,n,o],_=>exact⟨a,b,c,d,e,f,g,h,i,j,k,l,m,n,o,rfl⟩
abbrev XV(Q:Option o?):XO:=ED Q (.a? [])
abbrev BV(Q:Option o?)(vs:oW):oV:=xB Q (pVz vs) zJ8
def xZ(f:FuncId)(x:n_)(vs:oW)(to free:Int)(P:o?)(Q:Option o?):Prop:=jM Pg f [.c (.ptr 0 0),.ag (x.enc.map .d),.c (.x_ 1 14 0 (lN vs)),.c (.d (.int .i64 to)),.c (.d (.int .i64 free))] (Iq P vs) (XV Q) (BV Q vs)
def Bu(x:n_)(vs:oW)(to free:Int)(P:o?)(Q:Option o?)(N:Nat)(h:5<=N):lX [.c (.ptr 0 0),.ag (x.enc.map .d),.c (.x_ 1 14 0 (lN vs)),.c (.d (.int .i64 to)),.c (.d (.int .i64 free))] N (Iq P vs) (match XV Q with|.ret v=>v|.pan _=>.a? []) (BV Q vs):=by
 cases Q with
 |none=>exact⟨h,oC,oC,oC,oC,oC,by simp[live]⟩
 |some R=>exact⟨h,oC,oC,oC,oC,oC,by simp[live]⟩
def jA(x:n_)(vs:oW)(to free:Int)(P:o?):Option o?:=
 if x.d_=0 then iY {P with G:=(kF P.G x.n).1} ⟨11,to,(kF P.G x.n).2,0⟩
 else if x.d_=1 then iY {P with G:=(iR P.G x.text).1} ⟨12,to,(iR P.G x.text).2,0⟩
 else if x.d_=2 then iY P ⟨13,to,x.n,0⟩
 else if x.d_=3 then iY P ⟨14,to,0,0⟩
 else if x.d_=4 then iY P ⟨15,to,vs.getD x.n.toNat 0,0⟩
 else if x.d_=6 then iY P ⟨16,to,x.n,0⟩
 else if x.d_=7 then iY P ⟨22,to,to,free⟩
 else if x.d_=9 then iY {P with G:=(iR P.G x.text).1} ⟨19,to,to,(iR P.G x.text).2⟩
 else if x.d_=12 then iY P ⟨26,to,to,x.n⟩
 else if x.d_=13 then iY P ⟨x.n,to,to,free⟩
 else if x.d_=14 then iY P ⟨27,to,to,free⟩
 else if x.d_=15 then iY P ⟨28,to,to,free⟩
 else if x.d_=16 then iY P ⟨29,to,to,0⟩
 else if x.d_=17 then iY P ⟨30,to,to,0⟩
 else if x.d_=19 then iY P ⟨31,to,to,0⟩
 else if x.d_=20 then iY P ⟨32,to,0,0⟩
 else if x.d_=22 then iY {P with G:={P.G with cos:=P.G.cos++[x.cos.getD 0 (.mk [] [] [] [] [])]}} ⟨21,to,to,lN P.G.cos⟩
 else sS P
structure UI (x:n_) (vs:List Int):Prop where
 var:x.d_=4->0<=x.n/\x.n<lN vs
 co:x.d_=22->0<lN x.cos
structure GG (G:iT) (b:Nat):Prop where
 tree:AP G.T
 ks:lN G.ks=lN G.J_
 few:lN G.ints+lN G.L?+lN G.ks+lN G.cos+lN G.T<=b
 pr:lN G.procs<=1000000
set_option maxHeartbeats 8000000 in
def zEH(x:n_)(vs:oW)(to free:Int)(P:o?)(hx:UI x vs)(hG:GG P.G 1000000000):xZ 79 x vs to free P (jA x vs to free P):=by
 have hf:=hG.few;let⟨Q,hQ⟩:=oJ (jA x vs to free P);rw[hQ];refine znl (Bu x vs to free P Q 154 oM) λts _e ok hb c hN hp=>?_;obtain⟨t0,t1,t2,t3,t4,t5,t6,t7,t8,t9,t10,t11,t12,t13,t14,rfl⟩:=Kq _e;simp[zgF];apply gM<;>intro q
 .have h0:x.d_=0:=uM q;have e:Q=iY {P with G:=(kF P.G x.n).1} ⟨11,to,(kF P.G x.n).2,0⟩:=by rw[<-hQ];unfold jA;rw[aC h0]
  apply gN qV (zKF P.G x.n oM);simp;refine FB qX (tQ {P with G:=(kF P.G x.n).1} ⟨11,to,(kF P.G x.n).2,0⟩) oC (λR hR=>⟨oC,?_⟩) (λhR=>⟨oC,?_⟩)
  .have e2:=e.trans hR;subst e2;simp;refine⟨by rfl,?_⟩;have eg:=nJ hR;exact fK qY qN (by simp[eg.1,eg.2])
  .have e2:=e.trans hR;subst e2;simp;refine⟨by rfl,by rfl,?_⟩;exact gK qO qN oC
 have h0:¬x.d_=0:=uM q;apply gM<;>intro q
 .have h1:x.d_=1:=uM q;have e:Q=iY {P with G:=(iR P.G x.text).1} ⟨12,to,(iR P.G x.text).2,0⟩:=by rw[<-hQ];unfold jA;rw[aB h0,aC h1]
  apply gN qV (UH P.G x.text oM);simp;refine FB qX (tQ {P with G:=(iR P.G x.text).1} ⟨12,to,(iR P.G x.text).2,0⟩) oC (λR hR=>⟨oC,?_⟩) (λhR=>⟨oC,?_⟩)
  .have e2:=e.trans hR;subst e2;simp;refine⟨by rfl,?_⟩;have eg:=nJ hR;exact fK qY qN (by simp[eg.1,eg.2])
  .have e2:=e.trans hR;subst e2;simp;refine⟨by rfl,by rfl,?_⟩;exact gK qO qN oC
 have h1:¬x.d_=1:=uM q;apply gM<;>intro q
 .have h2:x.d_=2:=uM q;have e:Q=iY P ⟨13,to,x.n,0⟩:=by rw[<-hQ];unfold jA;rw[aB h0,aB h1,aC h2]
  refine lg qP (tQ P ⟨13,to,x.n,0⟩) oC (λR hR=>⟨oC,?_⟩) (λhR=>⟨oC,?_⟩)
  .have e2:=e.trans hR;subst e2;simp;have eg:R.G=P.G/\R.p_=P.p_:=nJ hR;exact fK qQ qN (by simp[eg.1,eg.2])
  .have e2:=e.trans hR;subst e2;simp;exact gK qO qN oC
 have h2:¬x.d_=2:=uM q;apply gM<;>intro q
 .have h3:x.d_=3:=uM q;have e:Q=iY P ⟨14,to,0,0⟩:=by rw[<-hQ];unfold jA;rw[aB h0,aB h1,aB h2,aC h3]
  refine lg qP (tQ P ⟨14,to,0,0⟩) oC (λR hR=>⟨oC,?_⟩) (λhR=>⟨oC,?_⟩)
  .have e2:=e.trans hR;subst e2;simp;have eg:R.G=P.G/\R.p_=P.p_:=nJ hR;exact fK qQ qN (by simp[eg.1,eg.2])
  .have e2:=e.trans hR;subst e2;simp;exact gK qO qN oC
 have h3:¬x.d_=3:=uM q;apply gM<;>intro q
 .have h4:x.d_=4:=uM q;let⟨i,hi⟩:∃i:Nat,x.n=i:=⟨x.n.toNat,by have:=(hx.var h4).1;omega⟩
  have hv:=(hx.var h4).2;have hi2:i<lN vs:=oM;rw[hi];simp[hi2,encI];have e:Q=iY P ⟨15,to,vs[i],0⟩:=by rw[<-hQ];unfold jA;rw[aB h0,aB h1,aB h2,aB h3,aC h4,hi];simp[hi2]
  refine lg qP (tQ P ⟨15,to,vs[i],0⟩) oC (λR hR=>⟨oC,?_⟩) (λhR=>⟨oC,?_⟩)
  .have e2:=e.trans hR;subst e2;simp;have eg:R.G=P.G/\R.p_=P.p_:=nJ hR;exact fK qQ qN (by simp[eg.1,eg.2])
  .have e2:=e.trans hR;subst e2;simp;exact gK qO qN oC
 have h4:¬x.d_=4:=uM q;apply gM<;>intro q
 .have h6:x.d_=6:=uM q;have e:Q=iY P ⟨16,to,x.n,0⟩:=by rw[<-hQ];unfold jA;rw[aB h0,aB h1,aB h2,aB h3,aB h4,aC h6]
  refine lg qP (tQ P ⟨16,to,x.n,0⟩) oC (λR hR=>⟨oC,?_⟩) (λhR=>⟨oC,?_⟩)
  .have e2:=e.trans hR;subst e2;simp;have eg:R.G=P.G/\R.p_=P.p_:=nJ hR;exact fK qQ qN (by simp[eg.1,eg.2])
  .have e2:=e.trans hR;subst e2;simp;exact gK qO qN oC
 have h6:¬x.d_=6:=uM q;apply gM<;>intro q
 .have h7:x.d_=7:=uM q;have e:Q=iY P ⟨22,to,to,free⟩:=by rw[<-hQ];unfold jA;rw[aB h0,aB h1,aB h2,aB h3,aB h4,aB h6,aC h7]
  refine lg qP (tQ P ⟨22,to,to,free⟩) oC (λR hR=>⟨oC,?_⟩) (λhR=>⟨oC,?_⟩)
  .have e2:=e.trans hR;subst e2;simp;have eg:R.G=P.G/\R.p_=P.p_:=nJ hR;exact fK qQ qN (by simp[eg.1,eg.2])
  .have e2:=e.trans hR;subst e2;simp;exact gK qO qN oC
 have h7:¬x.d_=7:=uM q;apply gM<;>intro q
 .have h9:x.d_=9:=uM q;have e:Q=iY {P with G:=(iR P.G x.text).1} ⟨19,to,to,(iR P.G x.text).2⟩:=by rw[<-hQ];unfold jA;rw[aB h0,aB h1,aB h2,aB h3,aB h4,aB h6,aB h7,aC h9]
  apply gN qV (UH P.G x.text oM);simp;refine FB qX (tQ {P with G:=(iR P.G x.text).1} ⟨19,to,to,(iR P.G x.text).2⟩) oC (λR hR=>⟨oC,?_⟩) (λhR=>⟨oC,?_⟩)
  .have e2:=e.trans hR;subst e2;simp;refine⟨by rfl,?_⟩;have eg:=nJ hR;exact fK qY qN (by simp[eg.1,eg.2])
  .have e2:=e.trans hR;subst e2;simp;refine⟨by rfl,by rfl,?_⟩;exact gK qO qN oC
 have h9:¬x.d_=9:=uM q;apply gM<;>intro q
 .have h12:x.d_=12:=uM q;have e:Q=iY P ⟨26,to,to,x.n⟩:=by rw[<-hQ];unfold jA;rw[aB h0,aB h1,aB h2,aB h3,aB h4,aB h6,aB h7,aB h9,aC h12]
  refine lg qP (tQ P ⟨26,to,to,x.n⟩) oC (λR hR=>⟨oC,?_⟩) (λhR=>⟨oC,?_⟩)
  .have e2:=e.trans hR;subst e2;simp;have eg:R.G=P.G/\R.p_=P.p_:=nJ hR;exact fK qQ qN (by simp[eg.1,eg.2])
  .have e2:=e.trans hR;subst e2;simp;exact gK qO qN oC
 have h12:¬x.d_=12:=uM q;apply gM<;>intro q
 .have h13:x.d_=13:=uM q;have e:Q=iY P ⟨x.n,to,to,free⟩:=by rw[<-hQ];unfold jA;rw[aB h0,aB h1,aB h2,aB h3,aB h4,aB h6,aB h7,aB h9,aB h12,aC h13]
  refine lg qP (tQ P ⟨x.n,to,to,free⟩) oC (λR hR=>⟨oC,?_⟩) (λhR=>⟨oC,?_⟩)
  .have e2:=e.trans hR;subst e2;simp;have eg:R.G=P.G/\R.p_=P.p_:=nJ hR;exact fK qQ qN (by simp[eg.1,eg.2])
  .have e2:=e.trans hR;subst e2;simp;exact gK qO qN oC
 have h13:¬x.d_=13:=uM q;apply gM<;>intro q
 .have h14:x.d_=14:=uM q;have e:Q=iY P ⟨27,to,to,free⟩:=by rw[<-hQ];unfold jA;rw[aB h0,aB h1,aB h2,aB h3,aB h4,aB h6,aB h7,aB h9,aB h12,aB h13,aC h14]
  refine lg qP (tQ P ⟨27,to,to,free⟩) oC (λR hR=>⟨oC,?_⟩) (λhR=>⟨oC,?_⟩)
  .have e2:=e.trans hR;subst e2;simp;have eg:R.G=P.G/\R.p_=P.p_:=nJ hR;exact fK qQ qN (by simp[eg.1,eg.2])
  .have e2:=e.trans hR;subst e2;simp;exact gK qO qN oC
 have h14:¬x.d_=14:=uM q;apply gM<;>intro q
 .have h15:x.d_=15:=uM q;have e:Q=iY P ⟨28,to,to,free⟩:=by rw[<-hQ];unfold jA;rw[aB h0,aB h1,aB h2,aB h3,aB h4,aB h6,aB h7,aB h9,aB h12,aB h13,aB h14,aC h15]
  refine lg qP (tQ P ⟨28,to,to,free⟩) oC (λR hR=>⟨oC,?_⟩) (λhR=>⟨oC,?_⟩)
  .have e2:=e.trans hR;subst e2;simp;have eg:R.G=P.G/\R.p_=P.p_:=nJ hR;exact fK qQ qN (by simp[eg.1,eg.2])
  .have e2:=e.trans hR;subst e2;simp;exact gK qO qN oC
 have h15:¬x.d_=15:=uM q;apply gM<;>intro q
 .have h16:x.d_=16:=uM q;have e:Q=iY P ⟨29,to,to,0⟩:=by rw[<-hQ];unfold jA;rw[aB h0,aB h1,aB h2,aB h3,aB h4,aB h6,aB h7,aB h9,aB h12,aB h13,aB h14,aB h15,aC h16]
  refine lg qP (tQ P ⟨29,to,to,0⟩) oC (λR hR=>⟨oC,?_⟩) (λhR=>⟨oC,?_⟩)
  .have e2:=e.trans hR;subst e2;simp;have eg:R.G=P.G/\R.p_=P.p_:=nJ hR;exact fK qQ qN (by simp[eg.1,eg.2])
  .have e2:=e.trans hR;subst e2;simp;exact gK qO qN oC
 have h16:¬x.d_=16:=uM q;apply gM<;>intro q
 .have h17:x.d_=17:=uM q;have e:Q=iY P ⟨30,to,to,0⟩:=by rw[<-hQ];unfold jA;rw[aB h0,aB h1,aB h2,aB h3,aB h4,aB h6,aB h7,aB h9,aB h12,aB h13,aB h14,aB h15,aB h16,aC h17]
  refine lg qP (tQ P ⟨30,to,to,0⟩) oC (λR hR=>⟨oC,?_⟩) (λhR=>⟨oC,?_⟩)
  .have e2:=e.trans hR;subst e2;simp;have eg:R.G=P.G/\R.p_=P.p_:=nJ hR;exact fK qQ qN (by simp[eg.1,eg.2])
  .have e2:=e.trans hR;subst e2;simp;exact gK qO qN oC
 have h17:¬x.d_=17:=uM q;apply gM<;>intro q
 .have h19:x.d_=19:=uM q;have e:Q=iY P ⟨31,to,to,0⟩:=by rw[<-hQ];unfold jA;rw[aB h0,aB h1,aB h2,aB h3,aB h4,aB h6,aB h7,aB h9,aB h12,aB h13,aB h14,aB h15,aB h16,aB h17,aC h19]
  refine lg qP (tQ P ⟨31,to,to,0⟩) oC (λR hR=>⟨oC,?_⟩) (λhR=>⟨oC,?_⟩)
  .have e2:=e.trans hR;subst e2;simp;have eg:R.G=P.G/\R.p_=P.p_:=nJ hR;exact fK qQ qN (by simp[eg.1,eg.2])
  .have e2:=e.trans hR;subst e2;simp;exact gK qO qN oC
 have h19:¬x.d_=19:=uM q;apply gM<;>intro q
 .have h20:x.d_=20:=uM q;have e:Q=iY P ⟨32,to,0,0⟩:=by rw[<-hQ];unfold jA;rw[aB h0,aB h1,aB h2,aB h3,aB h4,aB h6,aB h7,aB h9,aB h12,aB h13,aB h14,aB h15,aB h16,aB h17,aB h19,aC h20]
  refine lg qP (tQ P ⟨32,to,0,0⟩) oC (λR hR=>⟨oC,?_⟩) (λhR=>⟨oC,?_⟩)
  .have e2:=e.trans hR;subst e2;simp;have eg:R.G=P.G/\R.p_=P.p_:=nJ hR;exact fK qQ qN (by simp[eg.1,eg.2])
  .have e2:=e.trans hR;subst e2;simp;exact gK qO qN oC
 have h20:¬x.d_=20:=uM q;apply gM<;>intro q
 .have h22:x.d_=22:=uM q;have hc0:=hx.co h22;simp[hc0];have e:Q=iY {P with G:={P.G with cos:=P.G.cos++[x.cos[0]]}} ⟨21,to,to,lN P.G.cos⟩:=by rw[<-hQ];unfold jA;rw[aB h0,aB h1,aB h2,aB h3,aB h4,aB h6,aB h7,aB h9,aB h12,aB h13,aB h14,aB h15,aB h16,aB h17,aB h19,aB h20,aC h22];simp[hc0]
  apply gN qV (zLC P.G x.cos[0] oM);simp;refine FB qX (tQ {P with G:={P.G with cos:=P.G.cos++[x.cos[0]]}} ⟨21,to,to,lN P.G.cos⟩) oC (λR hR=>⟨oC,?_⟩) (λhR=>⟨oC,?_⟩)
  .have e2:=e.trans hR;subst e2;simp;refine⟨by rfl,?_⟩;have eg:=nJ hR;exact fK qY qN (by simp[eg.1,eg.2])
  .have e2:=e.trans hR;subst e2;simp;refine⟨by rfl,by rfl,?_⟩;exact gK qO qN oC
 have h22:¬x.d_=22:=uM q;have e:Q=sS P:=by rw[<-hQ];unfold jA;rw[aB h0,aB h1,aB h2,aB h3,aB h4,aB h6,aB h7,aB h9,aB h12,aB h13,aB h14,aB h15,aB h16,aB h17,aB h19,aB h20,aB h22]
 subst e;simp;exact fJ [0,101,2,103,104,105,106,7,8,9,10,11,112,13,14,1,3,4,5,6,12] qN
mutual
def wt:n_->Nat
|.mk k _ _ is ns _ _ ks=>1+(if k=8 then lN ns else 0)+(if k=23 then lN is else 0)+kr ks
def kr:List n_->Nat
|[]=>0
|k::ks=>wt k+kr ks
end
def w8(c:n_):Nat:=if c.d_=8 then lN c.a_ else 0
def UJ(c:n_):Nat:=if c.d_=23 then lN c.ints else 0
def Kr(c:n_):wt c=1+w8 c+UJ c+kr c.b_:=by cases c;rw[wt];try rfl
abbrev VF:=n_->oW->Int->Int->o?->Option o?
def Cx(V:VF)(x:n_)(vs:oW)(to free:Int)(P:o?):Option o?:=
(V (x.b_.getD 0 noC) vs to free P).bind λP1=>(iY P1 ⟨25,to,0,0⟩).bind λP2=>(V (x.b_.getD 1 noC) vs to free P2).bind λP3=>
 (iY P3 ⟨24,0,0,0⟩).bind λP4=>(V (x.b_.getD 2 noC) vs to free (kN P4 P1.code.length)).bind λP6=>sS (kN P6 P3.code.length)
mutual
def nK:n_->Nat->Prop
|.mk k n t is ns ts cs ks,N=>if k=18 then Gg ks N else if k=11 then Gh ks N else if k=8 then lN ks<=lN ns/\iZ ks N else if k=23 then(∀i,i∈is->0<=i/\i<N)else if k=10 then Gi ks N
 else lN ks<=2/\iZ ks N/\(k=4->0<=n/\n<N)/\(k=22->0<lN cs)
def iZ:List n_->Nat->Prop
|[],_=>True
|k::ks,N=>nK k N/\iZ ks N
def Gg:List n_->Nat->Prop
|[k0,k1],N=>nK k0 N/\nK k1 (N+1)
|_,_=>False
def Gh:List n_->Nat->Prop
|[k0,k1,k2],N=>nK k0 N/\nK k1 N/\nK k2 N
|_,_=>False
def Gi:List n_->Nat->Prop
|[k0,k1],N=>nK k0 N/\nK k1 N
|_,_=>False
end
def GG.mono{G:iT}{b c:Nat}(h:GG G b)(hc:b<=c):GG G c:=⟨h.tree,h.ks,aX h.few hc,h.pr⟩
structure Grown (P R:o?) (b:Nat):Prop where
 len:lN P.code<=lN R.code
 gg:GG R.G b
def Bv(V:VF)(c:n_):Prop:=∀(vs:oW) (to free:Int) (P:o?) (b:Nat),nK c (lN vs)->0<=to->to<=1000000000->0<=free->free+wt c<=1000000000->GG P.G b->b+wt c<=1000000000->0<lN vs->lN vs+wt c<=1000000000->
 xZ 48 c vs to free P (V c vs to free P)/\∀R,V c vs to free P=sS R->Grown P R (b+wt c)
def FC{P R:o?}{x:Ins}(h:iY P x=sS R):lN R.code=lN P.code+1:=by
 unfold iY at h;split at h
 .cases h
 .cases h;simp[Io]
@[simp] theorem FD(P:o?)(i:Nat):(kN P i).G=P.G:=rfl
@[simp] theorem EE(P:o?)(i:Nat):(kN P i).p_=P.p_:=rfl
@[simp] theorem FE(P:o?)(i:Nat):(kN P i).code.length=lN P.code:=by simp[kN]
set_option maxHeartbeats 8000000 in
def zuB(V:VF)(x k0 k1 k2:n_)(hk:x.b_=[k0,k1,k2])(H0:Bv V k0)(H1:Bv V k1)(H2:Bv V k2)(vs:oW)(to free:Int)(P:o?)(b:Nat)(w0:nK k0 (lN vs))(w1:nK k1 (lN vs))(w2:nK k2 (lN vs))
  (hto:0<=to) (_X:to<=1000000000) (hfr:0<=free) (hfr2:free+wt x<=1000000000) (hG:GG P.G b) (hb2:b+wt x<=1000000000) (hv1:0<lN vs) (hv2:lN vs+wt x<=1000000000):
  xZ 75 x vs to free P (Cx V x vs to free P)/\∀R,Cx V x vs to free P=sS R->Grown P R (b+wt x):=by
 have hw:wt x=1+w8 x+UJ x+(wt k0+(wt k1+wt k2)):=by rw[Kr,hk];simp[kr]
 have c0:=H0 vs to free P b w0 hto _X hfr oM hG oM hv1 oM;have c1:∀{P1 P2:o?},V k0 vs to free P=sS P1->iY P1 ⟨25,to,0,0⟩=sS P2->GG P2.G (b+wt k0):=λe1 e2=>by rw[(nJ e2).1];exact(c0.2 _ e1).gg
 let⟨Q,hQ⟩:=oJ (Cx V x vs to free P);rw[hQ];have _f:Q=(V k0 vs to free P).bind λP1=>(iY P1 ⟨25,to,0,0⟩).bind λP2=>(V k1 vs to free P2).bind λP3=>(iY P3 ⟨24,0,0,0⟩).bind λP4=>(V k2 vs to free (kN P4 P1.code.length)).bind λP6=>sS (kN P6 P3.code.length):=by
  rw[<-hQ];unfold Cx;rw[hk];try rfl
 refine⟨?_,?_⟩
 .refine znj (Bu x vs to free P Q 48 oM) λts _e ok hb c hN hp=>?_;obtain⟨t0,t1,t2,t3,t4,t5,t6,t7,t8,t9,t10,t11,t12,t13,t14,rfl⟩:=Kq _e;unfold zgC;simp[hk];refine lg qR c0.1 oC (λP1 h1=>⟨oC,?_⟩) (λh1=>⟨oC,?_⟩);rotate_left
  .rw[h1]at _f;simp at _f;subst _f;simp;exact gK qO qN oC
  rw[h1]at _f;simp at _f;simp;refine lg [0,30,2,31,32,33,34,7,8,9,10,11,35,13] (tQ P1 ⟨25,to,0,0⟩) oC (λP2 h2=>⟨oC,?_⟩) (λh2=>⟨oC,?_⟩);rotate_left
  .rw[h2]at _f;simp at _f;subst _f;simp;exact gK qO qN oC
  rw[h2]at _f;simp at _f;let⟨g2,r2⟩:=nJ h2;have c1:=H1 vs to free P2 (b+wt k0) w1 hto _X hfr oM (c1 h1 h2) oM hv1 oM;simp[hk];refine lg [0,36,2,31,32,33,34,7,8,9,10,11,35,13,14] c1.1 (by simp[g2,r2]) (λP3 h3=>⟨oC,?_⟩) (λh3=>⟨oC,?_⟩);rotate_left
  .rw[h3]at _f;simp at _f;subst _f;simp;exact gK qO qN oC
  rw[h3]at _f;simp at _f;have g3:=c1.2 _ h3;simp;refine lg [0,39,2,40,41,42,43,7,8,9,10,11,44,13] (tQ P3 ⟨24,0,0,0⟩) oC (λP4 h4=>⟨oC,?_⟩) (λh4=>⟨oC,?_⟩);rotate_left
  .rw[h4]at _f;simp at _f;subst _f;simp;exact gK qO qN oC
  rw[h4]at _f;simp at _f;let⟨g4,r4⟩:=nJ h4;have l4:=FC h4;have l2:=FC h2;have l3:=g3.len;have he1:=zxO P4 P1.code.length oM;simp;apply gP [0,45,2,40,41,42,43,7,8,9,10,11,44,13,37,38] he1 (by simp[g4,r4]);have c2:=H2 vs to free (kN P4 P1.code.length) (b+wt k0+wt k1) w2 hto _X hfr oM (by rw[FD,g4];exact g3.gg) oM hv1 oM;simp[hk];refine lg [0,45,2,40,41,42,43,7,8,9,10,11,44,13,14] c2.1 (by simp[g4,r4]) (λP6 h6=>⟨oC,?_⟩) (λh6=>⟨oC,?_⟩);rotate_left
  .rw[h6]at _f;simp at _f;subst _f;simp;exact gK qO qN oC
  rw[h6]at _f;simp at _f;have g6:=c2.2 _ h6;have l6:=g6.len;have he2:=zxO P6 P3.code.length (by simp at l6;omega);subst _f;simp;apply gN [0,48,2,49,50,51,52,7,8,9,10,11,53,13,46,47] he2;simp;exact fJ [0,101,2,103,104,105,106,7,8,9,10,11,112,13,14,48,49,50,51,52,53] qN
 .intro R hR;rw[hR]at _f;cases h1:V k0 vs to free P with
  |none=>rw[h1]at _f;cases _f
  | some P1=>
   rw[h1]at _f;simp only[Option.bind_some]at _f;cases h2:iY P1 ⟨25,to,0,0⟩with
   |none=>rw[h2]at _f;cases _f
   | some P2=>
    rw[h2]at _f;simp only[Option.bind_some]at _f;let⟨g2,r2⟩:=nJ h2;have l2:=FC h2;have g1:=c0.2 _ h1;have c1:=H1 vs to free P2 (b+wt k0) w1 hto _X hfr oM (c1 h1 h2) oM hv1 oM;cases h3:V k1 vs to free P2 with
    |none=>rw[h3]at _f;cases _f
    | some P3=>
     rw[h3]at _f;simp only[Option.bind_some]at _f;have g3:=c1.2 _ h3;cases h4:iY P3 ⟨24,0,0,0⟩with
     |none=>rw[h4]at _f;cases _f
     | some P4=>
      rw[h4]at _f;simp only[Option.bind_some]at _f;let⟨g4,r4⟩:=nJ h4;have l4:=FC h4;have c2:=H2 vs to free (kN P4 P1.code.length) (b+wt k0+wt k1) w2 hto _X hfr oM (by rw[FD,g4];exact g3.gg) oM hv1 oM;cases h6:V k2 vs to free (kN P4 P1.code.length)with
      |none=>rw[h6]at _f;cases _f
      |some P6=>
       rw[h6]at _f;simp only[Option.bind_some]at _f;have g6:=c2.2 _ h6;cases _f;have q1:=g1.len;have q3:=g3.len;have q6:=g6.len;rw[FE]at q6;exact⟨by rw[FE];omega,by rw[FD];exact g6.gg.mono oM⟩
end Go.Gr
namespace Go.Gr
open Go.Abs Go.Proofs List
variable {vs:List Int}{free:Int}
def nW(vs:List Int)(free:Int):List Int->Int->o?->Option o?
|[],_,P=>sS P
|v::l,i,P=>(mZ P (free+i)).bind λP1=>(iY P1 ⟨15,free+i,vs.getD v.toNat 0,0⟩).bind λP2=>nW vs free l (i+1) P2
def Bw(x:n_)(vs:oW)(to free:Int)(P:o?):Option o?:=(nW vs free x.ints 0 P).bind λP1=>iY P1 ⟨17,to,x.n,free⟩
set_option maxHeartbeats 8000000 in
def zIw(x:n_)(vs:oW)(to free:Int)(P:o?)(hi:∀v,v∈x.ints->0<=v/\v<lN vs)(h0:0<=free)(h1:free+lN x.ints<=1000000000):xZ 77 x vs to free P (Bw x vs to free P):=by
 let⟨Q,hQ⟩:=oJ (Bw x vs to free P);rw[hQ];refine zpD (Bu x vs to free P Q 41 oM) λts _e ok hb c hN hp=>?_;obtain⟨t0,t1,t2,t3,t4,t5,t6,t7,t8,t9,t10,t11,t12,t13,t14,rfl⟩:=Kq _e;simp[zib];refine fM gm hp (λY:Nat × o?=>Y.1<=lN x.ints/\(nW vs free (x.ints.drop Y.1) Y.1 Y.2).bind (λP1=>iY P1 ⟨17,to,x.n,free⟩)=Q) (λY=>[(15,.c (.d (.int .i64 Y.1))),(14,.c (.d (.int .i64 (lN x.ints)))),(13,.c (.d (.sl oK 1 (encI x.ints)))),(6,.c (.d (.rp x.enc 0))),(0,.c (.ptr 0 0)),(2,.c (.x_ 1 14 0 (lN vs))),(3,.c (.d (.int .i64 to))),(4,.c (.d (.int .i64 free)))]) (λY=>Iq Y.2 vs++[.G_ t0 0,.G_ t2 2,.G_ t7 7,.G_ t8 8,.G_ t9 9,.G_ t10 10,.G_ t11 11,.G_ t13 13,.G_ t14 14]) (λY=>lN x.ints-Y.1) (0,P) [0,1,2,3,4,5,6,7,8,9,10,11,12,13,14,15,17,22,23,24,25,26,28,29] ⟨oC,by simpa[Bw]using hQ⟩ (by simp[encI]) λ⟨i,P1⟩ ⟨i1,i2⟩=>?_;unfold zgE;simp only at i1 i2;simp;apply gM<;>intro q
 .have hi':i<lN x.ints:=uM q;rw[aF hi',nW]at i2;let⟨v0,v1⟩:=hi _ (aO hi');let⟨k,hk⟩:∃k:Nat,x.ints[i]=k:=⟨x.ints[i].toNat,oM⟩
  simp[hi',encI];rw[wI];refine lg qP (Gf P1 (free+i) oM oM) oC (λP2 h2=>⟨oC,?_⟩) (λh2=>⟨oC,?_⟩);rotate_left
  .rw[h2]at i2;simp at i2;subst i2;simp;exact gK qO qN oC
  rw[h2]at i2;simp at i2;simp;have hv:x.ints[i].toNat<lN vs:=oM;refine⟨v0,v1,?_⟩;rw[aA hv,Option.getD_some]at i2;rw[aA hv];simp;rw[wI];let⟨g2,r2⟩:P2.G=P1.G/\P2.code=P1.code:=Ip h2;refine lg qP (tQ P2 ⟨15,free+i,vs[x.ints[i].toNat],0⟩) oC (λP3 h3=>⟨oC,?_⟩) (λh3=>⟨oC,?_⟩);rotate_left
  .rw[h3]at i2;simp at i2;subst i2;simp;exact gK qO qN oC
  rw[h3]at i2;simp at i2;let⟨g3,r3⟩:=nJ h3;simp;apply fE (i+1,P3) [0,24,2,3,4,5,6,7,8,9,10,11,12,13,14,15,16,17,18,19,20,21,22,23] ⟨Nat.succ_le_of_lt hi',uM i2⟩ qM;simp[g3,r3];exact wI
 .have hi':i=lN x.ints:=oI q;subst hi';rw[aS]at i2;simp only[nW,Option.bind_some]at i2;refine lg qP (tQ P1 ⟨17,to,x.n,free⟩) oC (λP3 h3=>⟨oC,?_⟩) (λh3=>⟨oC,?_⟩);rotate_left
  .rw[h3]at i2;subst i2;simp;exact gK qO qN oC
  rw[h3]at i2;subst i2;let⟨g3,r3⟩:=nJ h3;simp;exact fK [0,101,2,103,104,105,106,7,8,9,10,11,112,13,14,24,3,4,5,6,12] [15,100,16,100,100,100,100,17,18,19,20,21,100,22,23] (by simp[g3,r3])
def zrB:∀{l:List Int} {i:Int} {P R:o?},nW vs free l i P=sS R->lN P.code<=lN R.code/\R.G=P.G
|[],i,P,R,h=>by cases h;exact⟨aJ _,rfl⟩
| v::l,i,P,R,h=>by
 unfold nW at h;cases h1:mZ P (free+i)with
 |none=>rw[h1]at h;cases h
 | some P1=>
  rw[h1]at h;simp only[Option.bind_some]at h;let⟨a1,b1⟩:=Ip h1;cases h2:iY P1 ⟨15,free+i,vs.getD v.toNat 0,0⟩with
  |none=>rw[h2]at h;cases h
  |some P2=>
   rw[h2]at h;simp only[Option.bind_some]at h;have l2:=FC h2;have g2:=(nJ h2).1;let⟨c,d⟩:=zrB h;rw[l2,b1]at c;exact⟨oM,by rw[d,g2,a1]⟩
def zy5{x:n_}{vs:oW}{to:Int}{P R:o?}{b:Nat}(h:Bw x vs to free P=sS R)(hG:GG P.G b):Grown P R b:=by
 unfold Bw at h;cases h1:nW vs free x.ints 0 P with
 |none=>rw[h1]at h;cases h
 |some P1=>
  rw[h1]at h;simp only[Option.bind_some]at h;let⟨c,d⟩:=zrB h1;have l2:=FC h;have g2:=(nJ h).1;exact⟨oM,by rw[g2,d];exact hG⟩
end Go.Gr
