/- Texts of ours, joined and written short by a program of ours. -/
import Derived.Test.YtlfjlokfciejnaaGreatDoorJ05
import Derived.Test.YtlfjlokfciejnaaGreatDoorChecked
import Derived.KernelRfl
set_option maxRecDepth 20000
set_option maxHeartbeats 4000000
set_option linter.all false
namespace Go.Abs
def argA:Nat->List AV->List (Nat × AV)
 |_,[]=>[]
 |i,v::vs=>(i,v)::argA (i+1) vs
def zdr:Nat->List (Nat × Nat)->List Blk
 |_,[]=>[]
 |i,t::ts=>.pin t i::zdr (i+1) ts
def AC.ok:AC->Prop
 |.d x=>x.ok
 |_=>True
def AC.okL:List AC->Prop
 |[]=>True
 |c::cs=>c.ok/\AC.okL cs
def AV.ok:AV->Prop
 |.c x=>x.ok
 |.ag cs=>AC.okL cs
 |_=>True
def AV.okL:List AV->Prop
 |[]=>True
 |v::vs=>v.ok/\AV.okL vs
def AC.okE(s:Nat):List (List AC)->Prop
 |[]=>True
 |e::es=>(e.length=s/\AC.okL e)/\AC.okE s es
def Blk.ok:Blk->Prop
 |.box cs=>AC.okL cs
 |.arr s es=>es.length<=zaf/\AC.okE s es
 |_=>True
section
variable {h:PH} {ρ:RM}
def RepC.ok:∀{x:AC} {v:Value},RepC h ρ x v->x.ok
 |.d x,v,r=>by simp only[RepC]at r;exact RepD.ok _ _ r
 |.ptr _ _,_,_=>trivial
 |.ept _ _ _ _,_,_=>trivial
 |.msl _ _ _ _,_,_=>trivial
 |.map _,_,_=>trivial
 |.fn _ _,_,_=>trivial
 |.op _,_,_=>trivial
def zae.ok:∀{cs:List AC} {vs:List Value},zae h ρ cs vs->AC.okL cs
 |[],_,_=>trivial
 |_::_,[],r=>by simp[zae]at r
 |c::cs,v::vs,r=>by
  simp only[zae]at r
  exact⟨r.1.2.ok,r.2.ok⟩
def RepV.ok:∀{x:AV} {v:Value},RepV h ρ x v->x.ok
 |.c x,v,r=>by simp only[RepV]at r;exact RepC.ok r
 |.ag cs,v,r=>by
  simp only[RepV]at r
  obtain⟨vs,_,_,r⟩:=r
  exact r.ok
 |.tup _,_,_=>trivial
def zas.ok:∀{xs:List AV} {vs:List Value},zas h ρ xs vs->AV.okL xs
 |[],_,_=>trivial
 |_::_,[],r=>by simp[zas]at r
 |x::xs,v::vs,r=>by
  simp only[zas]at r
  exact⟨r.1.ok,r.2.ok⟩
def zal.ok{s:Nat}:∀{es:List (List AC)} {vs:List Value},zal h ρ s es vs->AC.okE s es
 |[],_,_=>trivial
 |e::es,vs,r=>by
  simp only[zal]at r
  exact⟨⟨r.1,r.2.1.ok⟩,r.2.2.ok⟩
def zaH.ok{p:Nat × Nat}{blk:Blk}{w:Heap}(r:zaH h ρ p blk w):blk.ok:=by
 cases blk with
 |box cs=>obtain⟨vs,T,_,_,r⟩:=r;exact r.ok
 |arr s es=>
  rcases r with⟨_,rfl⟩|⟨vs,T,_,_,_,h4,r⟩
  ·exact⟨by simp,trivial⟩
  ·exact⟨h4,r.ok⟩
 |_=>trivial
def zas.len:∀{xs:List AV} {vs:List Value},zas h ρ xs vs->vs.length=xs.length
 |[],vs,r=>by simp only[zas]at r;subst r;rfl
 |_::_,[],r=>by simp[zas]at r
 |x::xs,v::vs,r=>by simp only[zas]at r;simp[r.2.len]
end
def finB(S:St)(l:List Nat):List Nat->List Blk->Prop
 |[],[]=>True
 |j::js,b::bs=>(b=.dead\/S.m j=b.ren (fOf l))/\finB S l js bs
 |_,_=>False
def pinB(S:St)(l:List Nat):List Nat->List Nat->List (Nat × Nat)->List Blk->Prop
 |_,_,[],_=>True
 |j::js,q::qs,t::ts,b::bs=>(b=.dead\/S.m q=.pin t j)/\pinB S l js qs ts bs
 |_,_,_,_=>False
def EndM(v:AV)(bs':List Blk)(ts:List (Nat × Nat))(vs:List AV)(S:St):Prop:=
 ∃l qs:List Nat,l.Nodup/\(∀(h:PH) (ρ:RM) (vC:Value),RepV h ρ (one? vs) vC->RepV h ρ (v.ren (fOf l)) vC)/\finB S l l bs'/\pinB S l l qs ts bs'
def EndM.mk{v:AV}{bs':List Blk}{ts:List (Nat × Nat)}{vs:List AV}{S:St}(l qs:List Nat)(h:l.Nodup/\one? vs=v.ren (fOf l)/\finB S l l bs'/\pinB S l l qs ts bs'):EndM v bs' ts vs S:=⟨l,qs,h.1,(fun _ _ _ r=>h.2.1▸r),h.2.2⟩
def EndM.mkD{v:AV}{bs':List Blk}{ts:List (Nat × Nat)}{vs:List AV}{S:St}(l qs:List Nat)(h:l.Nodup/\one? vs=v.ren (fOf l)/\finB S l l bs'/\pinB S l l qs ts bs':=by simp):EndM v bs' ts vs S:=EndM.mk l qs h
def endM(rs:List MR)(v:AV)(bs':List Blk)(ts:List (Nat × Nat)):Exit->St->Prop
 |.ret,S|.normal,S=>zjl S rs fun vs=>EndM v bs' ts vs S
 |_,_=>False
@[simp] theorem zHF(rs:List MR)(v:AV)(bs':List Blk)(ts:List (Nat × Nat))(S:St):endM rs v bs' ts .ret S=zjP S rs (fun vs=>EndM v bs' ts vs S) ⟨⟩:=(aP _).trans rfl
@[simp] theorem zGm(rs:List MR)(v:AV)(bs':List Blk)(ts:List (Nat × Nat))(S:St):endM rs v bs' ts .normal S=zjP S rs (fun vs=>EndM v bs' ts vs S) ⟨⟩:=(aP _).trans rfl
attribute [simp] argA zdr finB pinB AC.lv AC.lvs AV.lv AV.lvs Blk.lv AC.lvs_D newN zii wrL atL
def zsS:∀(i:Nat) (ts:List (Nat × Nat)),(zdr i ts).length=ts.length
 |_,[]=>rfl
 |i,t::ts=>by simp[zdr,zsS (i+1) ts]
def zsU:∀(i:Nat) (ts:List (Nat × Nat)) (j:Nat),(zdr i ts)[j]?=(ts[j]?).map fun t=>.pin t (i+j)
 |_,[],j=>by simp[zdr]
 |i,t::ts,0=>by simp[zdr]
 |i,t::ts,j+1=>by
  simp only[zdr,List.getElem?_cons_succ]
  rw[zsU (i+1) ts j,show i+1+j=i+(j+1) by omega]
def zxW{h:PH}{ρ:RM}:∀{ds:List AV} {us:List Value} (i:Nat),zas h ρ ds us->∀k,RepV h ρ (look (argA i ds) k) (if i<=k then us.getD (k-i) undef else undef)
 |[],us,i,_,k=>by simp[argA,look,RepV,RepC,RepD]
 |_::_,[],_,r,_=>by simp[zas]at r
 | d::ds,u::us,i,r,k=>by
  simp only[zas]at r
  simp only[argA,look]
  by_cases hk:k=i
  ·subst hk;simp;exact r.1
  ·rw[aB hk]
   have:=zxW (i+1) r.2 k
   by_cases hle:i<=k
   ·rw[aC hle]
    rw[aC (by omega)]at this
    rw[show k-i=(k-(i+1))+1 from by omega]
    simpa using this
   ·rw[aB hle]
    rw[aB (by omega)]at this
    exact this
def zxX{S:St}{l:List Nat}:∀{js:List Nat} {bs:List Blk},finB S l js bs->js.length=bs.length/\∀i,i<js.length->hpOf bs i=.dead\/S.m (js.getD i 0)=(hpOf bs i).ren (fOf l)
 |[],[],_=>⟨rfl,fun i hi=>by simp at hi⟩
 |[],_::_,h=>by simp[finB]at h
 |_::_,[],h=>by simp[finB]at h
 |j::js,b::bs,h=>by
  simp only[finB]at h
  obtain⟨h1,h2⟩:=zxX h.2
  refine⟨by simp[h1],fun i hi=>?_⟩
  cases i with
  |zero=>simpa[hpOf]using h.1
  |succ i=>simpa[hpOf]using h2 i (by simpa using hi)
def zxY{S:St}{l:List Nat}:∀{js qs:List Nat} {ts:List (Nat × Nat)} {bs:List Blk},pinB S l js qs ts bs->∀i t,ts[i]?=some t->hpOf bs i=.dead\/∃q,S.m q=.pin t (js.getD i 0)
 |_,_,[],_,_,i,t,e=>by simp at e
 |[],_,_::_,_,h,_,_,_=>by simp[pinB]at h
 |_::_,[],_::_,_,h,_,_,_=>by simp[pinB]at h
 |_::_,_::_,_::_,[],h,_,_,_=>by simp[pinB]at h
 |j::js,q::qs,t::ts,b::bs,h,0,t',e=>by
  simp only[pinB]at h
  simp at e;subst e
  rcases h.1 with h|h
  ·exact .inl (by simpa[hpOf]using h)
  ·exact .inr ⟨q,by simpa using h⟩
 |j::js,q::qs,t::ts,b::bs,h,i+1,t',e=>by
  simp only[pinB]at h
  have:=zxY h.2 i t' (by simpa using e)
  simpa[hpOf]using this
def zk8{bs:List Blk}{i:Nat}(h:i<bs.length):bs[i]?=some (hpOf bs i):=by
 unfold hpOf;rw[aH,aA h];rfl
def zce{bs:List Blk}{i:Nat}(h:bs.length<=i):hpOf bs i=.non:=by
 unfold hpOf;rw[aH,aR h];rfl
section
variable {P:Program}
def MCall.of_walk {f : FuncId} {fn : Func} {code : Code} {mc : MC} {rs : List MR} {args : List AV} {bs : List Blk} {v : AV} {bs' : List Blk} (hf : P.funcs[f]? = some fn) (hb : fn.body = some code) (hname : (fn.name != "runtime.NumGoroutine") = true)
  (hc:chkC P fn.ntmps mc code=true) (hr:chkR P rs fn.results.toList=true) (hn:args.length<=fn.ntmps) (hbs:∀i,i<bs.length->hpOf bs i≠.non) (hle:bs.length<=bs'.length) (hnon:∀i,i<bs'.length->hpOf bs' i≠.non)
  (hnew:∀i,bs.length<=i->i<bs'.length->hpOf bs' i≠.dead) (hvl:v.lv (live bs')=true) (hbl:∀b,b∈bs'->b.lv (live bs')=true)
  (h:∀ts:List (Nat × Nat),ts.length=bs.length->AV.okL args->(∀b,b∈bs->b.ok)->∀c:Ctx,c.N=fn.ntmps->c.pure->AW P c mc (endM rs v bs' ts) ⟨argA 0 args,hpOf (bs++zdr 0 ts),bs.length+ts.length⟩):MCall P f args bs v bs':=by
 refine⟨by unfold callee;rw[hf];simp only[hb];simpa using hname,hle,hnon,hvl,hbl,fun ph ρ0 w us H0 hG ra=>?_⟩
 have hlen:=ra.len
 have some0:∀i,i<bs.length->∃p,ρ0 i=some p:=fun i hi=>by
  cases e:ρ0 i with
  |none=>exact absurd ((H0.dom i).2 e) (hbs i hi)
  |some p=>exact⟨p,rfl⟩
 have none0:∀i,bs.length<=i->ρ0 i=none:=fun i hi=>(H0.dom i).1 (zce hi)
 let ts:List (Nat × Nat):=(List.range bs.length).map fun i=>(ρ0 i).getD (0,0)
 have hts:ts.length=bs.length:=by simp[ts]
 have tsget:∀i,i<bs.length->∀p,ρ0 i=some p->ts[i]?=some p:=fun i hi p hp=>by
  simp only[ts,List.getElem?_map,List.getElem?_range hi,Option.map_some,hp];rfl
 let ρ1:RM:=fun b=>if b<bs.length then ρ0 b else if b<bs.length+bs.length then ρ0 (b-bs.length)else none
 have m1a:∀b,b<bs.length->hpOf (bs++zdr 0 ts) b=hpOf bs b:=fun b hb=>by
  unfold hpOf;rw[aH,aH,cO hb]
 have m1b:∀j,j<bs.length->∀p,ρ0 j=some p->hpOf (bs++zdr 0 ts) (bs.length+j)=.pin p j:=fun j hj p hp=>by
  unfold hpOf;rw[aH,bz (by omega),bi,zsU,tsget j hj p hp];simp
 have m1c:∀b,bs.length+bs.length<=b->hpOf (bs++zdr 0 ts) b=.non:=fun b hb=>zce (by rw[aX,zsS,hts];exact hb)
 have rle:ρ0.le ρ1:=fun b p hp=>by
  have:b<bs.length:=by
   rcases aW b bs.length with h|h
   ·exact h
   ·rw[none0 b h]at hp;cases hp
  show(if b<bs.length then _ else _)=_
  rw[aC this];exact hp
 have r1:∀b p,ρ1 b=some p->(b<bs.length/\ρ0 b=some p)\/∃j,j<bs.length/\b=bs.length+j/\ρ0 j=some p:=fun b p hp=>by
  simp only[ρ1]at hp
  split at hp
  ·exact .inl ⟨by assumption,hp⟩
  ·split at hp
   ·exact .inr ⟨b-bs.length,by omega,by omega,hp⟩
   ·cases hp
 have H1:HRel ph ρ1 (hpOf (bs++zdr 0 ts)) w.heap:=by
  refine⟨H0.pers,?_,?_,?_,?_⟩
  ·intro b
   by_cases h1:b<bs.length
   ·rw[m1a b h1,H0.dom];show _↔(if b<bs.length then _ else _)=_;rw[aC h1]
   ·by_cases h2:b<bs.length+bs.length
    ·obtain⟨j,rfl⟩:∃j,b=bs.length+j:=⟨b-bs.length,by omega⟩
     obtain⟨p,hp⟩:=some0 j (by omega)
     rw[m1b j (by omega) p hp]
     show _↔(if _ then _ else if _ then ρ0 (bs.length+j-bs.length)else _)=_
     rw[aB h1,aC h2,bi,hp];simp
    ·rw[m1c b (by omega)]
     show _↔(if _ then _ else if _ then _ else _)=_
     rw[aB h1,aB h2];simp
  ·intro b p hp
   rcases r1 b p hp with⟨h1,h2⟩|⟨j,h1,rfl,h2⟩
   ·rw[m1a b h1];exact zaH.congr (fT ph) rle rfl (H0.own b p h2)
   ·rw[m1b j h1 p h2];exact⟨rfl,rle _ _ h2⟩
  ·intro b c p q hb hc' hrb hrc he
   rcases r1 b p hb with⟨h1,h2⟩|⟨j,h1,rfl,h2⟩
   ·rcases r1 c q hc' with⟨h3,h4⟩|⟨k,h3,rfl,h4⟩
    ·rw[m1a b h1]at hrb;rw[m1a c h3]at hrc
     exact H0.inj b c p q h2 h4 hrb hrc he
    ·rw[m1b k h3 q h4]at hrc;exact hrc.elim
   ·rw[m1b j h1 p h2]at hrb;exact hrb.elim
  ·intro b p hb hrb
   rcases r1 b p hb with⟨h1,h2⟩|⟨j,h1,rfl,h2⟩
   ·rw[m1a b h1]at hrb;exact H0.sep b p h2 hrb
   ·rw[m1b j h1 p h2]at hrb;exact hrb.elim
 let c:Ctx:=⟨ph,ρ0,hpOf bs,w,fn.ntmps⟩
 have hpure:c.pure:=trivial
 have hblk:∀b,b∈bs->b.ok:=fun b hb=>by
  obtain⟨i,hi,rfl⟩:=bM hb
  obtain⟨p,hp⟩:=some0 i hi
  have:=(H0.own i p hp).ok
  rwa[show hpOf bs i=bs[i] by unfold hpOf;rw[aH,aA hi];rfl]at this
 refine calls_of_wp hf hb (wp_mono (h ts hts ra.ok hblk c rfl hpure code hc _ w ?_) fun e a' w' ⟨S',r',q⟩=>?_)
 ·refine⟨hG,rfl,?_,ph,ρ1,H1,⟨fT ph,fun B _ _=>rfl,aN _,fun B _ _=>rfl,?_⟩,fV w,fun k=>?_⟩
  ·simp[c];omega
  ·intro b p hb hrb
   rcases r1 b p hb with⟨h1,h2⟩|⟨j,h1,rfl,h2⟩
   ·have hrb:Real (hpOf (bs++zdr 0 ts) b) p:=hrb
    rw[m1a b h1]at hrb;exact .inr ⟨b,p,h2,hrb,rfl⟩
   ·have hrb:Real (hpOf (bs++zdr 0 ts) (bs.length+j)) p:=hrb
    rw[m1b j h1 p h2]at hrb;exact hrb.elim
  ·show RepV ph ρ1 (look (argA 0 args) k) _
   have ra1:zas ph ρ1 args us:=zas.mono (fT ph) rle _ _ ra
   have:=zxW 0 ra1 k
   simp only[dK,if_true,di]at this
   have e1:(us.toArray++Array.replicate (fn.ntmps-us.toArray.size) undef).getD k undef=us.getD k undef:=by
    rw[aZ,aH,Array.getElem?_append]
    split
    ·simp
    ·rename_i hh
     rw[aR (by simpa using hh)]
     simp only[dG]
     split<;>rfl
   rw[e1]
   exact this
 ·obtain⟨ph',ρS,H,S0,e0,hg⟩:=r'.ex
  have fin:zjl S' rs (fun vs=>EndM v bs' ts vs S')->∃vC,(results fn a'.tmps).run P w'=.ok vC w'/\∃(vC':Value) (h':PH) (ρ':RM),Ending.returned vC=.returned vC'/\zgh ph ρ0 (hpOf bs) w.heap h' ρ' (hpOf bs') w'.heap/\HRel h' ρ' (hpOf bs') w'.heap/\Same w w'/\RepV h' ρ' v vC'/\
    ∀i,i<bs.length->ρ' i=ρ0 i:=by
   intro hk
   obtain⟨vs,⟨l,qs,lnd,kv,kf,kp⟩,F⟩:=zpf hr hk
   obtain⟨us',g1,g2⟩:=F (a:=a') H hg
   have hres:Runs P (results fn a'.tmps) w' (oneV us') w':=by
    unfold results
    refine fF (a:=us'.toArray) (w':=w') ?_ ?_
    ·rw[dS]
     exact g1.map (f:=List.toArray)
    ·cases us' with
     |nil=>exact fE _
     |cons u us'=>
      cases us' with
      |nil=>exact fE _
      |cons u' us'=>exact fE _
   have hrep:RepV ph' ρS (one? vs) (oneV us'):=by
    cases vs with
    |nil=>
     simp only[zas]at g2;subst g2
     simp only[one?,RepV]
     exact⟨[],rfl,rfl⟩
    | cons x xs=>
     cases us' with
     |nil=>simp[zas]at g2
     | cons u us'=>
      cases xs with
      |nil=>
       simp only[zas]at g2
       rw[g2.2]
       exact g2.1
      | cons y ys=>
       cases us' with
       |nil=>simp[zas]at g2
       |cons u' us'=>
        simp only[one?,RepV]
        exact⟨_,rfl,g2⟩
   have hrep:=kv _ _ _ hrep
   obtain⟨kl,kf⟩:=zxX kf
   -- which numbers are live
   have lv_:∀i,live bs' i=true↔i<bs'.length/\hpOf bs' i≠.dead:=by
    intro i
    unfold live
    rcases aW i bs'.length with hi|hi
    ·rw[zk8 hi]
     have:=hnon i hi
     cases e:hpOf bs' i<;>simp_all
    ·rw[aR hi];simp;omega
   let ρ2:RM:=fun i=>if i<bs.length then ρ0 i else if i<bs'.length then ρS (fOf l i)else none
   have mS:∀i,live bs' i=true->S'.m (fOf l i)=(hpOf bs' i).ren (fOf l):=fun i hi=>by
    obtain⟨h1,h2⟩:=(lv_ i).1 hi
    exact(kf i (by omega)).resolve_left h2
   have rS:∀i,live bs' i=true->ρ2 i=ρS (fOf l i):=fun i hi=>by
    obtain⟨h1,h2⟩:=(lv_ i).1 hi
    show(if i<bs.length then _ else _)=_
    by_cases hib:i<bs.length
    ·rw[aC hib]
     obtain⟨p,hp⟩:=some0 i hib
     obtain⟨q,hq⟩:=(zxY kp i p (tsget i hib p hp)).resolve_left h2
     cases e:ρS q with
     |none=>rw[(H.dom q).2 e]at hq;cases hq
     |some t=>
      have:=H.own q t e
      rw[hq]at this
      rw[hp];exact this.2.symm
    ·rw[aB hib,aC h1]
   have mvH:∀b q,live bs' b=true->ρS (fOf l b)=some q->ρ2 (id b)=some q:=fun b q hb hq=>by rw[<-rS b hb]at hq;exact hq
   have linj:∀i j,i<bs'.length->j<bs'.length->fOf l i=fOf l j->i=j:=by
    intro i j h1 h2 e
    unfold fOf at e
    rw[aH,aH,aA (by omega),aA (by omega)]at e
    simp only[Option.getD_some]at e
    exact(List.getElem?_inj (by omega) lnd).1 (by rw[aA (by omega),aA (by omega),e])
   have real_:∀b p,ρ2 b=some p->Real (hpOf bs' b) p->live bs' b=true/\b<bs'.length:=fun b p hp hr=>by
    have hb:b<bs'.length:=by
     rcases aW b bs'.length with h|h
     ·exact h
     ·rw[zce h]at hr;exact hr.elim
    exact⟨(lv_ b).2 ⟨hb,fun e=>by rw[e]at hr;exact hr⟩,hb⟩
   have H2:HRel ph' ρ2 (hpOf bs') w'.heap:=by
    refine⟨H.pers,?_,?_,?_,?_⟩
    ·intro b
     by_cases h1:b<bs.length
     ·obtain⟨p,hp⟩:=some0 b h1
      show _↔(if b<bs.length then _ else _)=_
      rw[aC h1,hp]
      simp[hnon b (by omega)]
     ·by_cases h2:b<bs'.length
      ·have hl:=(lv_ b).2 ⟨h2,hnew b (by omega) h2⟩
       rw[rS b hl,<-H.dom,mS b hl]
       cases hpOf bs' b<;>simp[Blk.ren]
      ·rw[zce (by omega)]
       show _↔(if _ then _ else if _ then _ else _)=_
       rw[aB h1,aB h2];simp
    ·intro b p hp
     by_cases hd:hpOf bs' b=.dead
     ·rw[hd];trivial
     ·have hb:b<bs'.length:=by
       rcases aW b bs'.length with h|h
       ·exact h
       ·have h1:¬b<bs.length:=by omega
        simp only[ρ2]at hp
        rw[aB h1,aB (by omega)]at hp;cases hp
      have hl:=(lv_ b).2 ⟨hb,hd⟩
      rw[rS b hl]at hp
      have:=H.own _ p hp
      rw[mS b hl]at this
      have h3:=zaH.mv (f2:=id) mvH (hbl _ (af (zk8 hb))) this
      rwa[Blk.ren_id]at h3
    ·intro b c' p q hb hc' hrb hrc he
     obtain⟨l1,b1⟩:=real_ b p hb hrb
     obtain⟨l2,b2⟩:=real_ c' q hc' hrc
     rw[rS b l1]at hb;rw[rS c' l2]at hc'
     exact linj b c' b1 b2 (H.inj _ _ p q hb hc' (by rw[mS b l1];exact Real.ren.2 hrb) (by rw[mS c' l2];exact Real.ren.2 hrc) he)
    ·intro b p hb hrb
     obtain⟨l1,b1⟩:=real_ b p hb hrb
     rw[rS b l1]at hb
     exact H.sep _ p hb (by rw[mS b l1];exact Real.ren.2 hrb)
   refine⟨_,hres,_,ph',ρ2,rfl,⟨S0.hle,S0.hlow,S0.size,S0.frame,?_⟩,H2,e0,?_,?_⟩
   ·intro b p hb hrb
    obtain⟨l1,b1⟩:=real_ b p hb hrb
    rw[rS b l1]at hb
    exact S0.own _ p hb (by rw[mS b l1];exact Real.ren.2 hrb)
   ·have:=RepV.mv (f2:=id) mvH v _ hvl hrep
    rwa[AV.ren_id]at this
   ·intro i hi
    show(if i<bs.length then _ else _)=_
    rw[aC hi]
  cases e with
  |normal=>exact⟨r'.defers,fin q⟩
  |ret=>exact⟨r'.defers,fin q⟩
  |exit _=>exact q.elim
  |goto _=>exact q.elim
  |panic _=>exact q.elim
  |outgrown=>exact q.elim
end
abbrev fI:=@EndM.mkD
abbrev fJ:=@EndM.mk
end Go.Abs
namespace Go.Abs
def zab(P:Program)(f:FuncId)(vs:List AV)(m:Hp)(n:Nat)(K:AV->List Nat->List (Nat × Blk)->Nat->Prop)(_:Tag K):Prop:=zh8 P f vs m n K
def zab.mk{P:Program}{f:FuncId}{vs:List AV}{m:Hp}{n:Nat}{K:AV->List Nat->List (Nat × Blk)->Nat->Prop}{g:Tag K}(l:List Nat){args:List AV}{bs:List Blk}{v:AV}{bs':List Blk}(h:MCall P f args bs v bs')
  (hs:l.Nodup/\(∀i,i∈l->i<n)/\vs=AV.rens (fOf l) args/\AV.lts l.length args=true/\(∀b,b∈bs->b.lt l.length=true)/\atL m (fOf l) l bs/\zii m n (bs'.length-bs.length))
  (k:K (v.ren (fOf (l++newN n (bs'.length-bs.length)))) [] (wrL (fOf (l++newN n (bs'.length-bs.length))) (l++newN n (bs'.length-bs.length)) bs') (n+(bs'.length-bs.length))):zab P f vs m n K g:=
 ⟨l,args,bs,v,bs',h,hs.1,hs.2.1,hs.2.2.1,hs.2.2.2.1,hs.2.2.2.2.1,hs.2.2.2.2.2.1,hs.2.2.2.2.2.2,k⟩
def zab.mK{P:Program}{f:FuncId}{vs:List AV}{m:Hp}{n:Nat}{K:AV->List Nat->List (Nat × Blk)->Nat->Prop}{g:Tag K}(l:List Nat){args:List AV}{bs:List Blk}{v:AV}{bs':List Blk}(h:MCall P f args bs v bs')(k:K (v.ren (fOf (l++newN n (bs'.length-bs.length)))) [] (wrL (fOf (l++newN n (bs'.length-bs.length))) (l++newN n (bs'.length-bs.length)) bs') (n+(bs'.length-bs.length)))
  (hs:l.Nodup/\(∀i,i∈l->i<n)/\vs=AV.rens (fOf l) args/\AV.lts l.length args=true/\(∀b,b∈bs->b.lt l.length=true)/\atL m (fOf l) l bs/\zii m n (bs'.length-bs.length):=by simp):zab P f vs m n K g:=zab.mk l h hs k
section
variable {P:Program} {get:Nat->AV} {m:Hp} {n:Nat} {K:AV->List Nat->List (Nat × Blk)->Nat->Prop}
@[simp] theorem zG6(f:FuncId)(xs:List MX){g}:eV P K (.callM f xs) g get m n=zab P f (xs.map (X get)) m n K ⟨⟩:=(aP _).trans rfl
@[simp] theorem zGU(x:MX)(xs:List MX){g}:eV P K (.calldM x xs) g get m n=(match X get x with
  |.c (.fn (.func f) caps)=>zab P f (xs.map (X get)++caps.map .c) m n K ⟨⟩
  |.c (.d (.fn (.func f) caps))=>zab P f (xs.map (X get)++caps.map fun c=>.c (.d c)) m n K ⟨⟩
  |_=>False):=(aP _).trans rfl
end
def Blk.tag:Blk->Nat
 |.non=>0
 |.dead=>1
 |_=>2
attribute [simp] Blk.tag
def MStat(args:List AV)(N:Nat)(bs:List Blk)(v:AV)(bs':List Blk):Prop:=
 args.length<=N/\(bs.all fun b=>b.tag !=0)=true/\bs.length<=bs'.length/\(bs'.all fun b=>b.tag !=0)=true/\((bs'.drop bs.length).all fun b=>b.tag==2)=true/\v.lv (live bs')=true/\(bs'.all fun b=>b.lv (live bs'))=true
def MS0{args:List AV}{N:Nat}{bs:List Blk}{v:AV}{bs':List Blk}(h:MStat args N bs v bs':=by exact⟨by simp,by simp,by simp,by simp,by simp,by simp,by simp⟩):MStat args N bs v bs':=h
def MS1{args:List AV}{N:Nat}{bs:List Blk}{v:AV}{bs':List Blk}(h:MStat args N bs v bs':=by exact⟨by simp,by simp,by simp,by simp,by simp,by simp,by simp[live]⟩):MStat args N bs v bs':=h
def zfC{bs:List Blk}(h:(bs.all fun b=>b.tag !=0)=true)(i:Nat)(hi:i<bs.length):hpOf bs i≠.non:=by
 intro e
 have:=aa.1 h _ (af (zk8 hi))
 rw[e]at this;simp at this
def zB0{bs:List Blk}{k:Nat}(h:((bs.drop k).all fun b=>b.tag==2)=true)(i:Nat)(hk:k<=i)(hi:i<bs.length):hpOf bs i≠.dead:=by
 intro e
 have hm:hpOf bs i∈bs.drop k:=by
  refine af (i:=i-k) ?_
  rw[bD,show k+(i-k)=i by omega]
  exact zk8 hi
 have:=aa.1 h _ hm
 rw[e]at this;simp at this
def MCall.of_walk' {P : Program} {f : FuncId} {fn : Func} {code : Code} {mc : MC} {rs : List MR} {args : List AV} {bs : List Blk} {v : AV} {bs' : List Blk} (hf : P.funcs[f]? = some fn) (hb : fn.body = some code) (hname : (fn.name != "runtime.NumGoroutine") = true)
  (hc:chkC P fn.ntmps mc code=true) (hr:chkR P rs fn.results.toList=true) (hm:P.follows .mixedOrders=true) (hs:MStat args fn.ntmps bs v bs')
  (h:∀ts:List (Nat × Nat),ts.length=bs.length->AV.okL args->(∀b,b∈bs->b.ok)->∀c:Ctx,c.N=fn.ntmps->c.pure->w_ P c mc (endM rs v bs' ts) ⟨⟩ ⟨argA 0 args,hpOf (bs++zdr 0 ts),bs.length+ts.length⟩):MCall P f args bs v bs':=
 MCall.of_walk hf hb hname hc hr hs.1 (zfC hs.2.1) hs.2.2.1 (zfC hs.2.2.2.1) (zB0 hs.2.2.2.2.1) hs.2.2.2.2.2.1 (fun b hb=>aa.1 hs.2.2.2.2.2.2 b hb) fun ts h1 h2 h3 c h4 h5=>W.aw hm (zxi (h ts h1 h2 h3 c h4 h5))
abbrev gK:=@zab.mK
abbrev gM:=@zab.mk
end Go.Abs
namespace Go.Abs
def MCall.frz{P:Program}{f:FuncId}{args:List AV}{bs:List Blk}{ds:List DV}{d:D}(hp:PCall P f ds (.one d))(hd:∀(h h':PH) (v:Value),RepD h d v->RepD h' d v)(e:zgT (hpOf bs) args=some ds)
  (h1:∀i,i<bs.length->hpOf bs i≠.non) (h2:(bs.all fun b=>b.lv (live bs))=true):MCall P f args bs (.c (.d d)) bs:=by
 refine⟨hp.1,aN _,h1,rfl,fun b hb=>aa.1 h2 b hb,fun h ρ w argsC H hG r=>?_⟩
 have k:=zkU (n:=0) H (fun _ _ _ _=>dK _) args ds argsC e r
 refine(hp.2 (zb2 h 0 w.heap) w argsC (ziK H) (hG.mono (zga H)) k).mono fun e w' hh=>?_
 obtain⟨vC,h',e1,e2,e3,e4,e5,e6,e7,e8⟩:=hh
 have hx:∀B,B<w.heap.size->w'.heap[B]?=w.heap[B]?:=e6
 have hP:∀B o,h B=some o->w'.heap[B]?=some o:=fun B o he=>by
  rw[e6 B (H.lt he)];exact H.pers B o he
 refine⟨vC,h,ρ,e1,⟨fun _ _ he=>he,fun B hB _=>rfl,e5,fun B hB _=>e6 B hB,fun b p hp hr=>.inr ⟨b,p,hp,hr,rfl⟩⟩,H.grow (fun _ _ he=>he) hP (fun B hB _=>⟨e6 B hB,rfl⟩),e7,?_,fun _ _=>rfl⟩
 simp only[zaP]at e8
 simp only[RepV,RepC]
 exact hd _ _ _ e8
def MCall.frzB{P:Program}{f:FuncId}{args:List AV}{bs:List Blk}{ds:List DV}{t:Bool}(hp:PCall P f ds (.one (.bool t)))(e:zgT (hpOf bs) args=some ds)
  (h1:(bs.all fun b=>b.tag !=0)=true) (h2:(bs.all fun b=>b.lv (live bs))=true):MCall P f args bs (.c (.d (.bool t))) bs:=
 MCall.frz hp (fun h h' v r=>by simpa[RepD]using r) e (zfC h1) h2
def MCall.frzI{P:Program}{f:FuncId}{args:List AV}{bs:List Blk}{ds:List DV}{k:IntKind}{i:Int}(hp:PCall P f ds (.one (.int k i)))(e:zgT (hpOf bs) args=some ds)
  (h1:(bs.all fun b=>b.tag !=0)=true) (h2:(bs.all fun b=>b.lv (live bs))=true):MCall P f args bs (.c (.d (.int k i))) bs:=
 MCall.frz hp (fun h h' v r=>by simpa[RepD]using r) e (zfC h1) h2
mutual
def D.erd:D->D
 |.sl _ s es=>.sl false s (D.erdE es)
 |.any=>.any
 |.int k n=>.int k n
 |.bool b=>.bool b
 |.str s=>.str s
 |.sc v=>.sc v
 |.rp cs o=>.rp (D.erdL cs) o
 |.fn f c=>.fn f c
 |.ifc t a c=>.ifc t a c
def D.erdL:List D->List D
 |[]=>[]
 |d::ds=>d.erd::D.erdL ds
def D.erdE:List (List D)->List (List D)
 |[]=>[]
 |e::es=>D.erdL e::D.erdE es
end
def D.erdL_length:∀ds:List D,(D.erdL ds).length=ds.length
 |[]=>rfl
 |d::ds=>by simp[D.erdL,D.erdL_length ds]
def D.erdE_length:∀es:List (List D),(D.erdE es).length=es.length
 |[]=>rfl
 |d::ds=>by simp[D.erdE,D.erdE_length ds]
mutual
def RepD.erd{h:PH}:∀(d:D) (v:Value),RepD h d v->RepD h d.erd v
 |.sl x s es,v,r=>by
  simp only[D.erd]
  simp only[RepD]at r⊢
  obtain⟨a,cap,r1,r2,r3,r4,r5,r6,r7⟩:=r
  refine⟨a,cap,by rw[r1,D.erdE_length],by rw[D.erdE_length];exact r2,(fun h=>by cases h),by rw[D.erdE_length];exact r4,(fun ha=>⟨?_,(r5 ha).2⟩),r6,RepE.erd s es _ r7⟩
  rw[(r5 ha).1];rfl
 |.any,v,r=>by simp only[D.erd];exact r
 |.int k n,v,r=>by simp only[D.erd];exact r
 |.bool b,v,r=>by simp only[D.erd];exact r
 |.str s,v,r=>by simp only[D.erd];exact r
 |.sc u,v,r=>by simp only[D.erd];exact r
 |.rp cs o,v,r=>by
  simp only[D.erd]
  simp only[RepD]at r⊢
  obtain⟨B,o',e1,e2⟩:=r
  exact⟨B,o',e1,RepL.erd _ _ e2⟩
 |.fn f c,v,r=>by simp only[D.erd];exact r
 |.ifc t a c,v,r=>by simp only[D.erd];exact r
def RepL.erd{h:PH}:∀(ds:List D) (vs:List Value),RepL h ds vs->RepL h (D.erdL ds) vs
 |[],vs,r=>by simp[D.erdL,RepL]
 |_::_,[],r=>by simp[RepL]at r
 |d::ds,v::vs,r=>by
  simp only[RepL]at r
  simp only[D.erdL,RepL]
  exact⟨⟨r.1.1,RepD.erd d v r.1.2⟩,RepL.erd ds vs r.2⟩
def RepE.erd{h:PH}(s:Nat):∀(es:List (List D)) (vs:List Value),RepE h s es vs->RepE h s (D.erdE es) vs
 |[],vs,r=>by simp[D.erdE,RepE]
 |e::es,vs,r=>by
  simp only[RepE]at r
  simp only[D.erdE,RepE]
  exact⟨by rw[D.erdL_length];exact r.1,RepL.erd e vs r.2.1,RepE.erd s es _ r.2.2⟩
end
mutual
def DV.erd:DV->DV
 |.one x=>.one x.erd
 |.agg cs=>.agg (D.erdL cs)
 |.tup vs=>.tup (DV.erds vs)
def DV.erds:List DV->List DV
 |[]=>[]
 |v::vs=>v.erd::DV.erds vs
end
mutual
def zaP.erd{h:PH}:∀{d:DV} {v:Value},zaP h d v->zaP h d.erd v
 |.one x,v,r=>by simp only[zaP,DV.erd]at r⊢;exact RepD.erd _ _ r
 |.agg cs,v,r=>by
  simp only[zaP,DV.erd]at r⊢
  obtain⟨vs,r1,r2,r3⟩:=r
  exact⟨vs,r1,by rw[r2,D.erdL_length],RepL.erd _ _ r3⟩
 |.tup xs,v,r=>by
  simp only[zaP,DV.erd]at r⊢
  obtain⟨vs,r1,r2⟩:=r
  exact⟨vs,r1,zax.erds r2⟩
def zax.erds{h:PH}:∀{ds:List DV} {vs:List Value},zax h ds vs->zax h (DV.erds ds) vs
 |[],_,r=>by simpa[zax,DV.erds]using r
 |_::_,[],r=>by simp[zax]at r
 |d::ds,v::vs,r=>by
  simp only[zax]at r
  simp only[DV.erds,zax]
  exact⟨zaP.erd r.1,zax.erds r.2⟩
end
def PCall.erd{P:Program}{f:FuncId}{args args':List DV}{v:DV}(h:PCall P f args' v)(e:DV.erds args=args'):PCall P f args v:=by
 subst e
 exact⟨h.1,fun ph w us hp hG r=>h.2 ph w us hp hG (zax.erds r)⟩
def zoJ:∀(a b:List (List D)),D.erdE (a++b)=D.erdE a++D.erdE b
 |[],b=>by simp[D.erdE]
 |x::a,b=>by simp[D.erdE,zoJ a b]
def law_liftedX{C:Checked}{os:Os}{f:FuncId}{fn:Func}{s:ChangeSpec}{conds:List PathCond}{S:List TypeId}{rt:TypeId}{H:Type}{enc:TypeId × Value->H}{X:World->Prop}(hX:∀(w w':World),w.heap=w'.heap->X w->X w')(hG:∀w:World,X w->Gnd C.prog fun B=>w.heap[B]?)
  (own:ownKnob C.prog.godebug=none) (started:os.Started) (noInit:C.prog.inits.idxOf? f=none) (hfn:C.prog.funcs[f]?=some fn) (hvars:s.vars=[])
  (hS:(S.all fun t=>zbk C.prog S t&&C.prog.readableRec t&&decide (t<C.prog.types.size))=true) (hp:(fn.params.toList.all fun t=>S.contains t)=true)
  (hres:fn.resultTypes=#[rt]) (hrt:C.prog.underlying rt=some .bool) (hl:laidOutB C.prog=true)
  (hspec:∀(ds:List (DataW H)),ds.length=fn.params.size->s.fn H ds={results:=[.lit (.bool true)],args:=ds})
  (witness:∃(w:World) (tape:Tape) (i:Input),w.os=os/\(w.forCall tape i).Shaped C.prog/\i.vars=[]/\Input.okWide C.prog (w.forCall tape i) .any w.heap.size f i/\
   ((s.pre enc C.prog fn conds false (w.forCall tape i).memory i.args/\X (w.forCall tape i).memory)/\sizedMet enc C.prog fn (OpenSpec.ofChange s) false (w.forCall tape i).memory i.args)/\({}:Assume).holds C.prog (lone (Frame.enter C.prog f i.args .normal) [] (w.forCall tape i)))
  (hc:∀dvs,zmX C.prog fn.params.toList dvs->PCall C.prog f dvs (.one (.bool true))):
  ReturnsInHanded {} C os f .any (fun w args=>(s.pre enc C.prog fn conds false w args/\X w)/\sizedMet enc C.prog fn (OpenSpec.ofChange s) false w args) (s.post enc C.prog fn false true false false):=by
 refine returnsInHanded_of_change_and (X:=fun w _=>X w) (fun w w' _ hh h=>hX w w' hh h) own started noInit hfn witness ?_
 intro W base args ds gs before hval hW _ hwt hXW _
 simp only[aa,aD,aI,dO]at hS hp
 have hW':=hW
 obtain⟨p,q,hA,hV,hpq,hfz,hnd⟩:=hW
 rw[hvars]at hV
 have hgs:gs=[]/\q=[]:=by
  cases gs with
  |nil=>exact⟨rfl,hV⟩
  |cons g gs=>exact hV.elim
 obtain⟨rfl,rfl⟩:=hgs
 simp only[bL]at hpq
 subst hpq
 have hpv:s.plain.varTypes C.prog=[]:=by unfold ChangeSpec.plain DataSpec.varTypes;rw[hvars];rfl
 simp only[hpv,bL,aa,aI]at hwt
 have hlen:∀{ts:List TypeId} {vs:List Value} {ds:List (DataW H)} {ps:List MemPlace},DataW.TrodAll enc C.prog W 0 (fun _=>true) true ts vs ds ps->ds.length=ts.length:=by
  intro ts
  induction ts with
  |nil=>intro vs ds ps h;cases vs<;>cases ds<;>first|rfl|exact h.elim
  |cons t ts ih=>
   intro vs ds ps h
   cases vs<;>cases ds<;>first|exact h.elim|skip
   obtain⟨_,_,_,h2,_⟩:=h
   simp[ih h2]
 obtain⟨dvs,d1,d2⟩:=zvx (fun t ht=>(hS t ht).1.1) hp (fun j t v ht hv=>hval j t v (by simpa using ht) (by simpa using hv)) hA hwt
 have hcall:=(hc dvs d1).2 (fun B=>W.heap[B]?) W args.toList (fun B o h=>h) (hG W hXW) d2
 refine(show Calls C.prog f args.toList.toArray W _ from hcall).mono fun e W' he=>?_
 obtain⟨vC,h',rfl,_,_,_,hsz,hold,⟨so,st,sp⟩,rv⟩:=he
 simp only[zaP,RepD]at rv
 subst rv
 have hb:Go.RowKit.Below W.heap.size W W':=⟨so,st,sp,hsz,hold⟩
 have hsp:=hspec ds (by simpa using hlen hA)
 refine⟨_,rfl,ds,[],before,[],before,[],hW',?_,?_,?_,hb.frame _,fun h=>by cases h⟩
 ·rw[bL,hsp,hres]
  refine⟨[],[],⟨1,?_⟩,rfl,rfl⟩
  unfold DataW.trod
  rw[hrt]
  rfl
 ·rw[bL,hsp]
  exact zlO hl hb (fun t ht=>⟨(hS t (hp t ht)).1.2,(hS t (hp t ht)).2⟩) hA (fun x hx=>hW'.lt x hx)
 ·rw[bL,hsp,hvars]
  rfl
def AC.erd:AC->AC
 |.d x=>.d x.erd
 |c=>c
mutual
def AV.erd:AV->AV
 |.c x=>.c x.erd
 |.ag cs=>.ag (cs.map AC.erd)
 |.tup vs=>.tup (AV.erds vs)
def AV.erds:List AV->List AV
 |[]=>[]
 |v::vs=>AV.erd v::AV.erds vs
end
def RepC.erd{h:PH}{ρ:RM}:∀{x:AC} {v:Value},RepC h ρ x v->RepC h ρ x.erd v
 |.d x,v,r=>by simp only[RepC,AC.erd]at r⊢;exact RepD.erd _ _ r
 |.ptr _ _,_,r=>r
 |.ept _ _ _ _,_,r=>r
 |.msl _ _ _ _,_,r=>r
 |.map _,_,r=>r
 |.fn _ _,_,r=>r
 |.op _,_,r=>r
def zae.erd{h:PH}{ρ:RM}:∀{cs:List AC} {vs:List Value},zae h ρ cs vs->zae h ρ (cs.map AC.erd) vs
 |[],vs,r=>by simp[zae]
 |_::_,[],r=>by simp[zae]at r
 |c::cs,v::vs,r=>by
  simp only[zae,List.map_cons]at r⊢
  exact⟨⟨r.1.1,RepC.erd r.1.2⟩,zae.erd r.2⟩
mutual
def RepV.erd{h:PH}{ρ:RM}:∀{x:AV} {v:Value},RepV h ρ x v->RepV h ρ x.erd v
 |.c x,v,r=>by simp only[RepV,AV.erd]at r⊢;exact RepC.erd r
 |.ag cs,v,r=>by
  simp only[RepV,AV.erd]at r⊢
  obtain⟨vs,h1,h2,h3⟩:=r
  exact⟨vs,h1,by simpa using h2,zae.erd h3⟩
 |.tup xs,v,r=>by
  simp only[RepV,AV.erd]at r⊢
  obtain⟨vs,h1,h2⟩:=r
  exact⟨vs,h1,zas.erds h2⟩
def zas.erds{h:PH}{ρ:RM}:∀{xs:List AV} {vs:List Value},zas h ρ xs vs->zas h ρ (AV.erds xs) vs
 |[],vs,r=>by simpa[zas,AV.erds]using r
 |_::_,[],r=>by simp[zas]at r
 |x::xs,v::vs,r=>by
  simp only[zas,AV.erds]at r⊢
  exact⟨RepV.erd r.1,zas.erds r.2⟩
end
def EndM.mkE{v:AV}{bs':List Blk}{ts:List (Nat × Nat)}{vs:List AV}{S:St}(l qs:List Nat)(h:l.Nodup/\(one? vs).erd=v.ren (fOf l)/\finB S l l bs'/\pinB S l l qs ts bs'):EndM v bs' ts vs S:=
 ⟨l,qs,h.1,(fun _ _ _ r=>h.2.1▸RepV.erd r),h.2.2⟩
abbrev fG:=@EndM.mkE
def bs(l:List Nat):fC:=⟨(l.map UInt8.ofNat).toArray⟩
inductive TY where
 |i (k:IntKind)|s|b|o (x:D) (n:Nat)|l (e:Nat)|r (z y:Nat) (f:List Nat)|a (z n e:Nat)|m (k e:Nat)
def gJ{α:Type}:List α->List α->List α
 |[],r=>r
 |x::l,r=>x::gJ l r
def gAt{α:Type}(x:α):List α->Nat->α
 |[],_=>x
 |y::_,0=>y
 |_::l,n+1=>gAt x l n
def gFl(f:Nat->List D):List Nat->List D
 |[]=>[]
 |x::l=>gJ (f x) (gFl f l)
def gSz:TY->Nat
 |.r z _ _=>z
 |.a z _ _=>z
 |_=>1
def gAg:TY->Bool
 |.r _ _ _=>true
 |.a _ _ _=>true
 |_=>false
def gBy:TY->Nat
 |.i .u8=>1
 |.i _=>8
 |.s=>16
 |.b=>1
 |.o _ n=>n
 |.l _=>24
 |.r _ y _=>y
 |_=>8
section
variable (T:Nat->TY)
def gEl:TY->Nat
 |.l e=>gSz (T e)
 |_=>0
def gRep:Nat->List D->List D
 |0,_=>[]
 |n+1,l=>gJ l (gRep n l)
def gZ:Nat->TY->List D
 |_,.i k=>[.int k 0]
 |_,.s=>[.str (bs [])]
 |_,.b=>[.bool false]
 |_,.o x _=>[x]
 |_,.l e=>[.sl true (gSz (T e)) []]
 |n+1,.r _ _ f=>gFl (fun t=>gZ n (T t)) f
 |n+1,.a _ k e=>gRep k (gZ n (T e))
 |_,_=>[.sc (.map none)]
def gNl:List UInt8->List Nat
 |[]=>[]
 |c::l=>c.toNat::gNl l
def gV(t:TY):Value->D
 |.bool b=>.bool b
 |.int k n=>.int k n
 |.string ⟨⟨l⟩⟩=>.str (bs (gNl l))
 |.pointer _=>.sc (.pointer none)
 |.nilFunc=>.sc .nilFunc
 |.nilIface=>.sc .nilIface
 |.map _=>.sc (.map none)
 |.slice _ _ _=>.sl true (gEl T t) []
 |_=>.any
def gX(t:TY):Operand->MX
 |.tmp k=>.t k
 |.func f=>.k (.fn (.func f) [])
 |.const v=>.k (gV T t v)
 |_=>.k .any
def gXs:List Operand->List Nat->List MX
 |x::l,t::ts=>gX T (T t) x::gXs l ts
 |x::l,[]=>gX T .s x::gXs l []
 |[],_=>[]
def gO:Option Operand->Option MX
 |none=>none
 |some x=>some (gX T .s x)
def gH(k d:Nat):List (Nat × Nat)->Bool
 |[]=>false
 |x::l=>match x.1==k,x.2==d with
  |true,true=>true
  |_,_=>gH k d l
def gKk:TY->Nat
 |.s=>1
 |.b=>2
 |_=>0
def gFo:Nat->List Nat->Nat × Nat
 |0,t::_=>(0,t)
 |n+1,t::l=>match gFo n l with|(o,u)=>(gSz (T t)+o,u)
 |_,[]=>(0,0)
def gFs:List Nat->List (Nat × Operand)->List (Nat × Nat × MX)
 |_,[]=>[]
 |f,(i,x)::l=>match gFo T i f with|(o,u)=>(o,gSz (T u),gX T (T u) x)::gFs f l
def gEs(e:Nat):List (Nat × Operand)->List (Nat × Nat × MX)
 |[]=>[]
 |(i,x)::l=>(i*gSz (T e),gSz (T e),gX T (T e) x)::gEs e l
def gSs(e:Nat):List (Nat × Operand)->List MX
 |[]=>[]
 |(_,x)::l=>gX T (T e) x::gSs e l
def gEq:List Nat->List Nat
 |[]=>[]
 |t::l=>gKk (T t)::gEq l
def gBad:MOp:=.mv (.k .any)
def gBin(op:BinOp)(x y:Operand):TY->MOp
 |.s=>match op with
  |.add=>.cat (gX T .s x) (gX T .s y)
  |_=>.binS op (gX T .s x) (gX T .s y)
 |.b=>.binB op (gX T .s x) (gX T .s y)
 |.i _=>match op with
  |.quo=>.divI op (gX T .s x) (gX T .s y)
  |.rem=>.divI op (gX T .s x) (gX T .s y)
  |_=>.binI op (gX T .s x) (gX T .s y)
 |.r _ _ f=>.eqAg (match op with|.neq=>true|_=>false) (gEq T f) (gX T .s x) (gX T .s y)
 |.l _=>.isNil (match op with|.neq=>true|_=>false) (gX T .s x)
 |.o _ _=>.isNilP (match op with|.neq=>true|_=>false) (gX T .s x)
 |_=>gBad
def zD2(E:List (Nat × Nat))(d:Nat):Callee->List Operand->List Nat->MOp
 | .value (.func f),xs,ts=>match gH 8 f E,xs with
  |true,[x,y]=>.cmpS f (gX T .s x) (gX T .s y)
  |_,_=>match gH 3 d E,gH 9 f E with
   |false,false=>.call f (gXs T xs ts)
   |_,_=>.callM f (gXs T xs ts)
 |.value f,xs,_=>match gH 2 d E with
  |true=>.calldM (gX T .s f) (gXs T xs [])
  |false=>.calld (gX T .s f) (gXs T xs [])
 |.builtin .len,[x],[t]=>match T t with
  |.s=>.lenS (gX T .s x)
  |.m _ _=>.mlen (gX T .s x)
  |_=>.len (gX T .s x)
 |.builtin .append,[x,y],[t,u]=>match T t with
  |.l e=>.append (gSz (T e)) (gBy (T e)) (gX T (.l e) x) (gX T (T u) y)
  |_=>gBad
 |.builtin .delete,x::y::_,t::_=>match T t with
  |.m k _=>.mdel (gKk (T k)) (gX T .s x) (gX T .s y)
  |_=>gBad
 |.builtin .min,[x,y],_=>.minI false (gX T .s x) (gX T .s y)
 |.builtin .max,[x,y],_=>.minI true (gX T .s x) (gX T .s y)
 |_,_,_=>gBad
def gOp(E:List (Nat × Nat))(d ty:Nat):Go.Op->MOp
 |.move x=>.mv (gX T (T ty) x)
 |.assign x=>.mv (gX T (T ty) x)
 |.pick c a b=>.pick (gX T .s c) (gX T (T ty) a) (gX T (T ty) b)
 |.alloc t=>.alloc (gZ T 9 (T t))
 |.box t v=>match gH 0 d E with
  |true=>.boxM (gX T (T t) v)
  |false=>.boxP (gX T (T t) v)
 |.build t ⟨ps⟩=>match T t with
  |.r z y f=>.build (gZ T 9 (.r z y f)) (gFs T f ps)
  |.a z n e=>.build (gZ T 9 (.a z n e)) (gEs T e ps)
  |_=>gBad
 |.buildSlice t _ ⟨ps⟩=>match T t,gH 1 d E with
  |.l e,true=>.buildSlM (gSz (T e)) (gSs T e ps)
  |.l e,false=>.buildSl (gSz (T e)) (gSs T e ps)
  |_,_=>gBad
 |.load t x=>.load (gAg (T t)) (gSz (T t)) (gX T .s x)
 |.store t x v=>.store (gSz (T t)) (gX T .s x) (gX T (T t) v)
 |.nilCheck x=>.nilck (gX T .s x)
 |.binOp op t x y _=>gBin T op x y (T t)
 |.unOp op _ x=>match op with
  |.not=>.not (gX T .s x)
  |_=>.neg (gX T .s x)
 |.convert _ t x=>match T t with
  |.i k=>.convI k (gX T .s x)
  |_=>gBad
 |.slice t x l h m=>match T t,m with
  |.s,_=>.sliceS (gX T .s x) (gO T l) (gO T h)
  |.l e,none=>.slice (gSz (T e)) (gX T (.l e) x) (gO T l) (gO T h)
  |.l e,some _=>.slice00 (gSz (T e)) (gX T (.l e) x)
  |_,_=>gBad
 |.fieldAddr t x i=>match T t with
  |.r _ _ f=>match gFo T i f with|(o,_)=>.faddr o (gX T .s x)
  |_=>gBad
 |.field t x i=>match T t with
  |.r _ _ f=>match gFo T i f with|(o,u)=>.field (gAg (T u)) o (gSz (T u)) (gX T .s x)
  |_=>gBad
 |.indexAddr t x i=>match T t with
  |.a _ n e=>.iaddrA n (gSz (T e)) (gX T .s x) (gX T .s i)
  |.l e=>.iaddrS (gSz (T e)) (gX T .s x) (gX T .s i)
  |_=>gBad
 |.index t x i=>match T t with
  |.s=>.idxS (gX T .s x) (gX T .s i)
  |.a _ n e=>.idxA (gAg (T e)) n (gSz (T e)) (gX T .s x) (gX T .s i)
  |_=>gBad
 |.makeFunc (.func g) _ ⟨xs⟩=>.mkfn g (gXs T xs [])
 |.extract t i=>.extract (gX T .s t) i
 |.call ⟨c,⟨xs⟩,⟨ts⟩⟩=>zD2 T E d c xs ts
 |.makeMap _ _=>.mkmap
 |.mapUpdate t x k v=>match T t with
  |.m a e=>.mset (gKk (T a)) (gX T .s x) (gX T .s k) (gX T (T e) v)
  |_=>gBad
 |.insert t x k v=>match T t with
  |.m a e=>.mset (gKk (T a)) (gX T .s x) (gX T .s k) (gX T (T e) v)
  |_=>gBad
 |.lookup t x k ok=>match T t with
  |.m a e=>.mlook (gKk (T a)) ok (gAg (T e)) (gZ T 9 (T e)) (gX T .s x) (gX T .s k)
  |_=>gBad
 |.makeSlice t l c=>match T t,gH 1 d E with
  |.l e,true=>.mkslM (gZ T 9 (T e)) (gBy (T e)) (gX T .s l) (gX T .s c)
  |.l e,false=>.mksl (gZ T 9 (T e)) (gBy (T e)) (gX T .s l)
  |_,_=>gBad
 |_=>gBad
def gDn:Nat->List Oper->Nat
 |0,o::_=>o.dst.getD 0
 |n+1,_::l=>gDn n l
 |_,[]=>0
def gMO(E:List (Nat × Nat))(all:List Oper):List Oper->List MO
 |[]=>[]
 |⟨d,op,ty,_,_,g⟩::l=>⟨match g with|none=>none|some (j,b)=>some (gDn j all,b),d,gOp T E (d.getD 10000) ty op⟩::gMO E all l
def gAny(k:Nat)(E:List (Nat × Nat)):List Oper->Bool
 |[]=>false
 |o::l=>match gH k (o.dst.getD 10000) E with
  |true=>true
  |false=>gAny k E l
def gW(x:Bool)(f:MC->MC)(c:MC):MC:=match x with
 |true=>f c
 |false=>c
def gL{α:Type}(x:α):List (Nat × α)->Nat->α
 |[],_=>x
 |(i,y)::l,k=>match i==k with
  |true=>y
  |false=>gL x l k
def gC(E:List (Nat × Nat))(B:List (Nat × List Nat))(L:List (Nat × MC)):Code->MC
 |.skip=>.skip
 |.block i (.loop _)=>gW (gH 6 i E) .owq (.block i (.loop (gL .skip L i)))
 |.region i ⟨os⟩ d=>gW (gAny 5 E os) .owq (gW (gAny 4 E os) .fzq (match d with
  |true=>.regd (gL [] B i) (gMO T E os os)
  |false=>.reg (gMO T E os os)))
 |.seq a b=>.seq (gC E B L a) (gC E B L b)
 |.cond c a b=>.cond (gX T .s c) (gC E B L a) (gC E B L b)
 |.block i b=>.block i (gC E B L b)
 |.loop b=>.loop (gC E B L b)
 |.exit i=>.exit i
 |.ret=>gW (gH 7 1 E) .fzq (gW (gH 7 0 E) .owq .ret)
 |_=>.skip
end
def gLp(i:Nat):Code->Option Code
 |.seq a b=>match gLp i a with
  |some c=>some c
  |none=>gLp i b
 |.cond _ a b=>match gLp i a with
  |some c=>some c
  |none=>gLp i b
 |.block k (.loop b)=>match k==i with
  |true=>some b
  |false=>gLp i b
 |.block _ b=>gLp i b
 |.loop b=>gLp i b
 |_=>none
def gLb(i:Nat)(c:Code):Code:=match gLp i c with
 |some b=>b
 |none=>.skip
def gB(f:Func):Code:=match f.body with
 |some c=>c
 |none=>.skip
def nf(a:MC){x:MC}(h:x=a):MC:=x
def wOk (P : Program) (fn : Func) (N : Nat) (c : MC) (rs : List MR) : Bool := (decide (fn.ntmps = N) && (fn.name != "runtime.NumGoroutine")) && ((match fn.body with
 |some b=>chkC P N c b
 |none=>false)&&chkR P rs fn.results.toList)
abbrev WT(P:Program)(f:FuncId)(N:Nat)(c:MC)(rs:List MR):Prop:=∀{args:List DV} {v:DV},args.length<=N->(DV.okL args->∀x:Ctx,x.N=N->x.pure->w_ P x c (endQ rs v) ⟨⟩ ⟨argT 0 args,fun _=>.non,0⟩)->PCall P f args v
abbrev WM(P:Program)(f:FuncId)(N:Nat)(c:MC)(rs:List MR):Prop:=∀{args:List AV} {bs:List Blk} {v:AV} {bs':List Blk},MStat args N bs v bs'->(∀ts:List (Nat × Nat),ts.length=bs.length->AV.okL args->(∀b,b∈bs->b.ok)->∀x:Ctx,x.N=N->x.pure->w_ P x c (endM rs v bs' ts) ⟨⟩ ⟨argA 0 args,hpOf (bs++zdr 0 ts),bs.length+ts.length⟩)->MCall P f args bs v bs'
def wT{P:Program}{f:FuncId}{N:Nat}{c:MC}{rs:List MR}{fn:Func}(hm:P.follows .mixedOrders=true)(hf:P.funcs[f]?=some fn)(h:wOk P fn N c rs=true):WT P f N c rs:=by
 unfold wOk at h
 simp only[aD,aI]at h
 obtain⟨⟨e,hn⟩,hc,hr⟩:=h
 subst e
 cases hb:fn.body with
 |none=>rw[hb]at hc;cases hc
 |some b=>
  rw[hb]at hc
  exact fun hl k=>PCall.of_walk hf hb hn hc hr hl fun o x e p=>W.aw hm (zxi (k o x e p))
def wM{P:Program}{f:FuncId}{N:Nat}{c:MC}{rs:List MR}{fn:Func}(hm:P.follows .mixedOrders=true)(hf:P.funcs[f]?=some fn)(h:wOk P fn N c rs=true):WM P f N c rs:=by
 unfold wOk at h
 simp only[aD,aI]at h
 obtain⟨⟨e,hn⟩,hc,hr⟩:=h
 subst e
 cases hb:fn.body with
 |none=>rw[hb]at hc;cases hc
 |some b=>
  rw[hb]at hc
  exact fun hs k=>MCall.of_walk' hf hb hn hc hr hm hs k
attribute [simp] gJ gAt gFl gSz gAg gBy gEl gRep gZ gNl gV gX gXs gO gH gKk gFo gFs gEs gSs gEq gBad gBin zD2 gOp gDn gMO gAny gW gL gC gLp gLb gB
end Go.Abs
namespace Go.Gr
open Go.Abs Go.Proofs
noncomputable abbrev Pg:Program:=Tryz.prog
def zaa:Pg.follows .mixedOrders=true:=Tryz.checked.mixed
def ttl:List (List TY):=
 let p:=.o (.sc (.pointer none)) 8;let f:=.o (.sc .nilFunc) 8;let q:=.o (.sc .nilIface) 16;let n:=.i .i64
 [[.s,f,n,n,.b,.i .u8,.i .u8,.r 4 24 [2,3,4,6],.r 4 24 [2,3,4,6],.s,.s,.s,.i .u64,.r 2 24 [9,12],.r 2 24 [9,12],p],
  [p,p,.r 1 8 [17],.r 1 8 [17],q,.i .i32,.l 50,f,.l 42,.l 210,.r 3 56 [24,3,25],.r 3 56 [24,3,25],.s,f,f,f],
  [.l 9,.l 35,.r 4 72 [3,9,32,33],.r 4 72 [3,9,32,33],.l 3,.l 69,.l 40,.r 8 152 [3,3,9,36,32,33,37,38],.r 8 152 [3,3,9,36,32,33,37,38],.r 13 240 [9,35,40],.r 13 240 [9,35,40],f,.s,f,f,f],
  [f,.r 2 32 [9,9],.r 2 32 [9,9],.l 83,.l 115,.r 3 32 [9,3,3],.r 3 32 [9,3,3],.r 6 104 [32,51,52,54],.r 6 104 [32,51,52,54],.l 78,.s,f,.s,f,f,f],
  [f,f,f,.l 109,.r 5 120 [36,67,32,37,37],.r 5 120 [36,67,32,37,37],f,f,.s,f,f,f,n,.r 4 32 [3,3,3,76],.r 4 32 [3,3,3,76],f],
  [.l 119,.l 89,.r 2 48 [80,81],.r 2 48 [80,81],.l 148,.l 87,.r 8 120 [3,9,3,3,3,33,32,85],.r 8 120 [3,9,3,3,3,33,32,85],.r 15 224 [9,4,84,9,33,87,3,3],.r 15 224 [9,4,84,9,33,87,3,3],p,p,.l 100,.r 2 32 [3,92],.r 2 32 [3,92],.r 17 272 [56,91,27,57,3,32,33,76,3,3]],
  [.r 17 272 [56,91,27,57,3,32,33,76,3,3],.s,f,.r 3 40 [3,3,33],.r 3 40 [3,3,33],f,f,f,f,f,f,f,.r 2 24 [9,3],.r 2 24 [9,3],f,f],
  [f,.s,f,.l 54,.s,f,.r 4 56 [9,32,3,3],.r 4 56 [9,32,3,3],.s,f,f,f,f,f,f,f],
  [f,f,f,.s,f,.r 5 88 [9,35],.r 5 88 [9,35],.l 134,f,f,f,p,.s,f,f,f],
  [.l 4,.s,f,.r 5 88 [9,35],.r 5 88 [9,35],f,f,f,f,.s,f,f,p,f,.m 9 4,f],
  [f,f,.m 9 69,.s,f,.s,f,f,f,f,.l 173,f,.r 6 88 [3,4,35],.r 6 88 [3,4,35],f,f],
  [f,f,f,f,.l 186,.s,f,.r 6 64 [180,3,3,76,3,3],.r 6 64 [180,3,3,76,3,3],.r 4 40 [3,9,3,3],.r 4 40 [3,9,3,3],f,f,f,.s,f],
  [f,f,f,.s,f,f,.s,f,f,f,f,f,f,.s,f,f],
  [f,.r 3 24 [3,3,3],.r 3 24 [3,3,3],f,f,f,f,f,f,f,f,f,.s,f,f,f],
  [f,f,f,f,f,f,f,f,.s,f,f,.l 237,.r 5 88 [9,35],.r 5 88 [9,35],f,f],
  [p,.a 6 6 240,f,f,f,.i .u64,.i .u64,.l 32,f,f,f,f,n,.s,f,f],
  [f,f,f,f,.i .u32,f,f,f,f,f,f,f,.i .u64,f,f,f],
  [p,f,.a 256 256 5,f,f,f,f,p,.s,f,f,.l 285,.r 2 16 [3,3],.r 2 16 [3,3],f,p],
  [f,.l 295,.l 298,.r 3 56 [289,290,3],.r 3 56 [289,290,3],.i .u16,.r 3 6 [293,293,293],.r 3 6 [293,293,293],f,.r 3 12 [260,260,260],.r 3 12 [260,260,260],f,p,p,.r 4 40 [17,17,17,9],.r 4 40 [17,17,17,9]],
  [.a 0 0 16,.r 0 0 [304],.r 0 0 [304],f,.i .u8,.i .u8,f,p,.i .i32,.i .i32,.r 11 48 [12,12,260,308,5,5,309,310,311,312,313],.r 11 48 [12,12,260,308,5,5,309,310,311,312,313]]]
def tt(k:Nat):TY:=gAt .s (gAt [] ttl (k/16)) (k%16)
attribute [simp] tt ttl
def zjV:MC:=(fun x(_:x=gC tt [] [] [] (gLb 0 (gB Tryz.f176)))=>x) _ (by dsimp[Tryz.f176])
def zmp:MC:=(fun x(_:x=gC tt [] [] [(0,zjV)] (gB Tryz.f176))=>x) _ (by dsimp[Tryz.f176])
def zwo:WT Pg 176 52 zmp [.tmp 2,.tmp 3]:=wT zaa Tryz.func176 (by kernel_rfl)
def zmq:MC:=(fun x(_:x=gC tt [] [] [] (gB Tryz.f118))=>x) _ (by dsimp[Tryz.f118])
def zwp:WT Pg 118 2 zmq [.tmp 0]:=wT zaa Tryz.func118 (by kernel_rfl)
def zlB:MC:=(fun x(_:x=gC tt [] [] [] (gLb 0 (gB Tryz.f70)))=>x) _ (by dsimp[Tryz.f70])
def zob:MC:=(fun x(_:x=gC tt [] [] [(0,zlB)] (gB Tryz.f70))=>x) _ (by dsimp[Tryz.f70])
def zyA:WT Pg 70 18 zob [.tmp 2]:=wT zaa Tryz.func70 (by kernel_rfl)
def zlC:MC:=(fun x(_:x=gC tt [] [] [] (gB Tryz.f72))=>x) _ (by dsimp[Tryz.f72])
def zuo:WT Pg 72 21 zlC [.tmp 2]:=wT zaa Tryz.func72 (by kernel_rfl)
def zmr:MC:=(fun x(_:x=gC tt [] [] [] (gB Tryz.f71))=>x) _ (by dsimp[Tryz.f71])
def zwq:WT Pg 71 9 zmr [.tmp 2]:=wT zaa Tryz.func71 (by kernel_rfl)
def zlD:MC:=(fun x(_:x=gC tt [] [] [] (gLb 0 (gB Tryz.f45)))=>x) _ (by dsimp[Tryz.f45])
def zoc:MC:=(fun x(_:x=gC tt [] [] [(0,zlD)] (gB Tryz.f45))=>x) _ (by dsimp[Tryz.f45])
def zyB:WT Pg 45 45 zoc [.tmp 2]:=wT zaa Tryz.func45 (by kernel_rfl)
def zhs:MC:=(fun x(_:x=gC tt [] [(5,[0,1,3,7,15,31,15,15,207,463,1023,2047])] [] (gLb 0 (gB Tryz.f178)))=>x) _ (by dsimp[Tryz.f178])
def zht:MC:=(fun x(_:x=gC tt [] [(11,[0,1,0,0,12,31])] [] (gLb 2 (gB Tryz.f178)))=>x) _ (by dsimp[Tryz.f178])
def zod:MC:=(fun x(_:x=gC tt [] [] [(0,zhs),(2,zht)] (gB Tryz.f178))=>x) _ (by dsimp[Tryz.f178])
def zyC:WT Pg 178 38 zod [.tmp 2]:=wT zaa Tryz.func178 (by kernel_rfl)
def zje:MC:=(fun x(_:x=gC tt [] [] [] (gLb 0 (gB Tryz.f177)))=>x) _ (by dsimp[Tryz.f177])
def zlE:MC:=(fun x(_:x=gC tt [] [] [(0,zje)] (gB Tryz.f177))=>x) _ (by dsimp[Tryz.f177])
def zup:WT Pg 177 59 zlE [.tmp 2,.tmp 3]:=wT zaa Tryz.func177 (by kernel_rfl)
def zgy:MC:=(fun x(_:x=gC tt [] [] [] (gLb 2 (gB Tryz.f153)))=>x) _ (by dsimp[Tryz.f153])
def zjW:MC:=(fun x(_:x=gC tt [] [] [(2,zgy)] (gLb 0 (gB Tryz.f153)))=>x) _ (by dsimp[Tryz.f153])
def zms:MC:=(fun x(_:x=gC tt [] [] [(0,zjW)] (gB Tryz.f153))=>x) _ (by dsimp[Tryz.f153])
def zwr:WT Pg 153 50 zms [.tmp 2]:=wT zaa Tryz.func153 (by kernel_rfl)
def zgz:MC:=(fun x(_:x=gC tt [] [] [] (gLb 0 (gB Tryz.f154)))=>x) _ (by dsimp[Tryz.f154])
def zmt:MC:=(fun x(_:x=gC tt [] [] [(0,zgz)] (gB Tryz.f154))=>x) _ (by dsimp[Tryz.f154])
def zws:WT Pg 154 115 zmt [.cell 2 true 4,.tmp 3,.tmp 4]:=wT zaa Tryz.func154 (by kernel_rfl)
def zix:MC:=(fun x(_:x=gC tt [] [] [] (gLb 2 (gB Tryz.f119)))=>x) _ (by dsimp[Tryz.f119])
def zmu:MC:=(fun x(_:x=gC tt [] [] [(2,zix)] (gLb 0 (gB Tryz.f119)))=>x) _ (by dsimp[Tryz.f119])
def zp0:MC:=(fun x(_:x=gC tt [(6,0)] [] [(0,zmu)] (gB Tryz.f119))=>x) _ (by dsimp[Tryz.f119])
def zAy:WT Pg 119 86 zp0 [.tmp 2,.cell 3 true 4]:=wT zaa Tryz.func119 (by kernel_rfl)
def zp1:MC:=(fun x(_:x=gC tt [] [(2,[0,0,2,6,14,0,32,96,224,510,1022,2046,4095,8191,16383]),(3,[0,0,2,6,14,0,32,96,224,510,1022,2046,4095,8191,16383])] [] (gB Tryz.f127))=>x) _ (by dsimp[Tryz.f127])
def zyD:WM Pg 127 41 zp1 []:=wM zaa Tryz.func127 (by kernel_rfl)
def zp2:MC:=(fun x(_:x=gC tt [] [(1,[0,1,3,7,0,16,48,112,255,511,0,2047])] [] (gB Tryz.f155))=>x) _ (by dsimp[Tryz.f155])
def zyE:WM Pg 155 37 zp2 [.tmp 4]:=wM zaa Tryz.func155 (by kernel_rfl)
def zp3:MC:=(fun x(_:x=gC tt [(9,155)] [] [] (gB Tryz.f120))=>x) _ (by dsimp[Tryz.f120])
def zyF:WM Pg 120 18 zp3 [.tmp 4]:=wM zaa Tryz.func120 (by kernel_rfl)
def zp4:MC:=(fun x(_:x=gC tt [(9,120),(9,127)] [] [] (gB Tryz.f122))=>x) _ (by dsimp[Tryz.f122])
def zyG:WM Pg 122 12 zp4 []:=wM zaa Tryz.func122 (by kernel_rfl)
def zp5:MC:=(fun x(_:x=gC tt [(9,127)] [(1,[0,1,3,7,0,16,48,112,255,511,0,2047])] [] (gB Tryz.f121))=>x) _ (by dsimp[Tryz.f121])
def zyH:WM Pg 121 35 zp5 [.tmp 2]:=wM zaa Tryz.func121 (by kernel_rfl)
def zoe:MC:=(fun x(_:x=gC tt [(9,127)] [] [] (gB Tryz.f158))=>x) _ (by dsimp[Tryz.f158])
def zwt:WM Pg 158 22 zoe [.tmp 2]:=wM zaa Tryz.func158 (by kernel_rfl)
def zp6:MC:=(fun x(_:x=gC tt [(9,158),(9,179),(9,120),(9,156)] [] [] (gB Tryz.f156))=>x) _ (by dsimp[Tryz.f156])
def zyI:WM Pg 156 31 zp6 [.cell 2 true 4]:=wM zaa Tryz.func156 (by kernel_rfl)
def zof:MC:=(fun x(_:x=gC tt [(9,120),(9,190)] [] [] (gLb 0 (gB Tryz.f179)))=>x) _ (by dsimp[Tryz.f179])
def zr9:MC:=(fun x(_:x=gC tt [(9,190),(1,8),(4,19)] [] [(0,zof)] (gB Tryz.f179))=>x) _ (by dsimp[Tryz.f179])
def zAz:WM Pg 179 27 zr9 [.cell 2 true 4]:=wM zaa Tryz.func179 (by kernel_rfl)
def zmv:MC:=(fun x(_:x=gC tt [(9,120)] [] [] (gLb 0 (gB Tryz.f190)))=>x) _ (by dsimp[Tryz.f190])
def zmw:MC:=(fun x(_:x=gC tt [(9,121),(9,122),(9,156),(9,120)] [] [] (gLb 2 (gB Tryz.f190)))=>x) _ (by dsimp[Tryz.f190])
def zp7:MC:=(fun x(_:x=gC tt [(9,120),(9,156),(9,122),(9,121),(5,43),(4,45),(4,68)] [] [(0,zmv),(2,zmw)] (gB Tryz.f190))=>x) _ (by dsimp[Tryz.f190])
def zyJ:WM Pg 190 71 zp7 [.cell 2 true 4]:=wM zaa Tryz.func190 (by kernel_rfl)
def zp8:MC:=(fun x(_:x=gC tt [(9,120),(9,156)] [] [] (gB Tryz.f157))=>x) _ (by dsimp[Tryz.f157])
def zyK:WM Pg 157 13 zp8 [.tmp 2]:=wM zaa Tryz.func157 (by kernel_rfl)
def zuq:MC:=(fun x(_:x=gC tt [] [(1,[0,0,2,6,14,0,32,96,224,510,1022,2046,0,4096,12288,28672,0,65536,196608,458752,1044480,2093056,4190208,8388607,16777215])] [] (gB Tryz.f180))=>x) _ (by dsimp[Tryz.f180])
def zCE:WM Pg 180 29 zuq [.cell 4 true 8]:=wM zaa Tryz.func180 (by kernel_rfl)
def zp9:MC:=(fun x(_:x=gC tt [(9,158),(9,159)] [] [] (gB Tryz.f126))=>x) _ (by dsimp[Tryz.f126])
def zyL:WM Pg 126 20 zp9 [.cell 2 true 8]:=wM zaa Tryz.func126 (by kernel_rfl)
def zqa:MC:=(fun x(_:x=gC tt [(9,180),(9,120),(9,121),(9,157),(9,122),(9,126),(9,125),(9,181)] [] [] (gB Tryz.f159))=>x) _ (by dsimp[Tryz.f159])
def zyM:WM Pg 159 76 zqa [.cell 2 true 8]:=wM zaa Tryz.func159 (by kernel_rfl)
def zeK:MC:=(fun x(_:x=gC tt [(9,122),(9,121),(9,157),(7,1)] [] [] (gB Tryz.f125))=>x) _ (by dsimp[Tryz.f125])
def zf1:WM Pg 125 26 zeK [.tmp 2,.tmp 3]:=wM zaa Tryz.func125 (by kernel_rfl)
def zmx:MC:=(fun x(_:x=gC tt [(9,180),(9,120),(9,181)] [] [] (gLb 0 (gB Tryz.f181)))=>x) _ (by dsimp[Tryz.f181])
def zhL:MC:=(fun x(_:x=gC tt [(9,191),(9,192),(9,181)] [] [(0,zmx)] (gB Tryz.f181))=>x) _ (by dsimp[Tryz.f181])
def zkL:WM Pg 181 72 zhL [.cell 4 true 8]:=wM zaa Tryz.func181 (by kernel_rfl)
def zog:MC:=(fun x(_:x=gC tt [(9,120),(9,181)] [] [] (gLb 0 (gB Tryz.f192)))=>x) _ (by dsimp[Tryz.f192])
def zoh:MC:=(fun x(_:x=gC tt [(9,120)] [] [] (gLb 2 (gB Tryz.f192)))=>x) _ (by dsimp[Tryz.f192])
def zsa:MC:=(fun x(_:x=gC tt [(9,181),(9,180),(9,120),(9,156),(9,127)] [] [(0,zog),(2,zoh)] (gB Tryz.f192))=>x) _ (by dsimp[Tryz.f192])
def zAA:WM Pg 192 76 zsa [.cell 2 true 8]:=wM zaa Tryz.func192 (by kernel_rfl)
def zoi:MC:=(fun x(_:x=gC tt [(9,158),(9,180),(9,120),(9,191),(9,211)] [] [] (gB Tryz.f191))=>x) _ (by dsimp[Tryz.f191])
def zwu:WM Pg 191 39 zoi [.cell 2 true 8]:=wM zaa Tryz.func191 (by kernel_rfl)
def zmy:MC:=(fun x(_:x=gC tt [(9,180),(9,120),(9,126),(9,122),(9,121)] [] [] (gLb 0 (gB Tryz.f211)))=>x) _ (by dsimp[Tryz.f211])
def zqb:MC:=(fun x(_:x=gC tt [(9,227)] [] [(0,zmy)] (gB Tryz.f211))=>x) _ (by dsimp[Tryz.f211])
def zyN:WM Pg 211 33 zqb [.cell 2 true 8]:=wM zaa Tryz.func211 (by kernel_rfl)
def zqc:MC:=(fun x(_:x=gC tt [(9,180),(9,120),(9,122),(9,126),(9,234),(9,121),(9,235)] [(2,[0,1,3,7,0,16,48,112,255,511,0,2047])] [] (gB Tryz.f227))=>x) _ (by dsimp[Tryz.f227])
def zyO:WM Pg 227 125 zqc [.cell 2 true 8]:=wM zaa Tryz.func227 (by kernel_rfl)
def zlF:MC:=(fun x(_:x=gC tt [(9,156),(9,120)] [] [] (gLb 0 (gB Tryz.f235)))=>x) _ (by dsimp[Tryz.f235])
def zoj:MC:=(fun x(_:x=gC tt [(4,16),(9,122),(6,0)] [] [(0,zlF)] (gB Tryz.f235))=>x) _ (by dsimp[Tryz.f235])
def zwv:WM Pg 235 19 zoj [.tmp 2]:=wM zaa Tryz.func235 (by kernel_rfl)
def zjX:MC:=(fun x(_:x=gC tt [(9,121),(9,122),(9,126),(9,120)] [] [] (gLb 0 (gB Tryz.f234)))=>x) _ (by dsimp[Tryz.f234])
def zmz:MC:=(fun x(_:x=gC tt [(0,3),(9,120),(9,126),(9,122),(9,121),(4,106),(6,0)] [(4,[0,1,3,7,0,16,48,112,255,511,0,2047]),(5,[0,1,3,7,15,31,63,127,255,511,1023,2047,4095,8191,16383,2047,34815,100351,231423,493567,1048575,2097151,4194303,8388607,16777215,33554431,67108863,134217727,268435455,536870911,67108863,1140850687,3288334335,7583301631,16173236223,34359738367,68719476735,137438953471,274877906943,549755813887])] [(0,zjX)] (gB Tryz.f234))=>x) _ (by dsimp[Tryz.f234])
def zur:WM Pg 234 109 zmz [.cell 4 true 8]:=wM zaa Tryz.func234 (by kernel_rfl)
def zlG:MC:=(fun x(_:x=gC tt [(9,121),(9,120),(7,1)] [] [] (gLb 0 (gB Tryz.f123)))=>x) _ (by dsimp[Tryz.f123])
def zok:MC:=(fun x(_:x=gC tt [(6,0)] [] [(0,zlG)] (gB Tryz.f123))=>x) _ (by dsimp[Tryz.f123])
def zww:WM Pg 123 17 zok [.tmp 2]:=wM zaa Tryz.func123 (by kernel_rfl)
def zmA:MC:=(fun x(_:x=gC tt [(9,121),(9,120),(9,156)] [] [] (gLb 0 (gB Tryz.f124)))=>x) _ (by dsimp[Tryz.f124])
def zqd:MC:=(fun x(_:x=gC tt [(9,120),(4,27),(9,122),(6,0)] [] [(0,zmA)] (gB Tryz.f124))=>x) _ (by dsimp[Tryz.f124])
def zyP:WM Pg 124 30 zqd [.tmp 2]:=wM zaa Tryz.func124 (by kernel_rfl)
def zgA:MC:=(fun x(_:x=gC tt [(9,120),(9,121),(9,122),(9,123)] [(3,[0,1,3,7,0,16,48,112,255,511,1023,0,2048,6144,14336,0,32768,98304,229376,522240,1046528,2095104,4194303,0,16777215])] [] (gLb 0 (gB Tryz.f74)))=>x) _ (by dsimp[Tryz.f74])
def zgB:MC:=(fun x(_:x=gC tt [(9,120),(9,122),(9,121),(9,124),(9,125),(4,131),(9,126)] [(11,[0,1,3,7,15,31,63,127,255,511,63,1087,3135,7231,16383,32767,65535,131071,262143]),(13,[0,1,3,7,0,16,48,112,255,511,1023,2047,4095]),(14,[0,1,3,7,0,16,48,112,255,511,1023,2047,4095])] [] (gLb 2 (gB Tryz.f74)))=>x) _ (by dsimp[Tryz.f74])
def zmB:MC:=(fun x(_:x=gC tt [(6,0),(7,1)] [] [(0,zgA),(2,zgB)] (gB Tryz.f74))=>x) _ (by dsimp[Tryz.f74])
def zus:WM Pg 74 145 zmB [.cell 2 true 2]:=wM zaa Tryz.func74 (by kernel_rfl)
def zsb:MC:=(fun x(_:x=gC tt [(9,127)] [(1,[0,1,3,7,15,31,63,127,255,511,63,1087,3135,7231,16383,32767,65535,131071,262143]),(3,[0,1,3,7,0,16,48,112,0,256,768,1792,4095,8191])] [] (gB Tryz.f75))=>x) _ (by dsimp[Tryz.f75])
def zAB:WM Pg 75 37 zsb [.cell 2 true 4]:=wM zaa Tryz.func75 (by kernel_rfl)
def zmC:MC:=(fun x(_:x=gC tt [(0,13)] [(2,[0,1,3,0,7,31])] [] (gB Tryz.f73))=>x) _ (by dsimp[Tryz.f73])
def zut:WM Pg 73 15 zmC [.tmp 2,.cell 3 true 4]:=wM zaa Tryz.func73 (by kernel_rfl)
def zmD:MC:=(fun x(_:x=gC tt [(9,73),(9,74),(9,75)] [(3,[0,0,1,7]),(7,[0,0,1,7]),(8,[0,0,1,7])] [] (gB Tryz.f46))=>x) _ (by dsimp[Tryz.f46])
def zwx:WT Pg 46 28 zmD [.cell 2 true 2,.cell 3 true 4]:=wT zaa Tryz.func46 (by kernel_rfl)
structure Ins where
 op:Int
 a:Int
 b:Int
 c:Int
structure Prc where
 caps:Int
 regs:Int
 code:List Ins
def encI(l:List Int):List (List D):=l.map fun i=>[.int .i64 i]
def encS(l:List fC):List (List D):=l.map fun s=>[.str s]
def encN(l:List (fC × Int)):List (List D):=l.map fun x=>[.str x.1,.int .i64 x.2]
inductive Coe where
 |mk (tags:List Int) (needs:List (fC × Int)) (names:List fC) (fields fn:List Coe)
mutual
def Coe.enc:Coe->List D
 |.mk t n s f g=>[.sl false 1 (encI t),.sl false 2 (encN n),.sl false 1 (encS s),.sl false 5 (Coe.encs f),.sl false 5 (Coe.encs g)]
def Coe.encs:List Coe->List (List D)
 |[]=>[]
 |c::cs=>Coe.enc c::Coe.encs cs
end
def Coe.encs_map(l:List Coe):Coe.encs l=l.map Coe.enc:=by
 induction l with
 |nil=>simp[Coe.encs]
 |cons c l ih=>simp[Coe.encs,ih]
structure Cod where
 ints:List Int
 strs:List fC
 shapes:List (List fC)
 cos:List Coe
 procs:List Prc
 main:Int
 merge:Bool
@[simp] theorem zwm(l:List Int):(encI l).length=l.length:=by simp[encI]
@[simp] theorem ze9(l:List fC):(encS l).length=l.length:=by simp[encS]
@[simp] theorem zwn(l:List (fC × Int)):(encN l).length=l.length:=by simp[encN]
@[simp] theorem zHB(l:List Int)(k:Nat):(encI l)[k]?=(l[k]?).map fun i=>[.int .i64 i]:=by simp[encI]
@[simp] theorem zHC(l:List fC)(k:Nat):(encS l)[k]?=(l[k]?).map fun i=>[.str i]:=by simp[encS]
def Coe.tags:Coe->List Int|.mk t _ _ _ _=>t
def Coe.needs:Coe->List (fC × Int)|.mk _ n _ _ _=>n
def Coe.names:Coe->List fC|.mk _ _ s _ _=>s
def Coe.fields:Coe->List Coe|.mk _ _ _ f _=>f
def Coe.fn:Coe->List Coe|.mk _ _ _ _ g=>g
def Coe.enc_eq(d:Coe):d.enc=[.sl false 1 (encI d.tags),.sl false 2 (encN d.needs),.sl false 1 (encS d.names),.sl false 5 (d.fields.map Coe.enc),.sl false 5 (d.fn.map Coe.enc)]:=by
 cases d with
 |mk t n s f g=>simp[Coe.enc,Coe.encs_map,Coe.tags,Coe.needs,Coe.names,Coe.fields,Coe.fn]
@[simp] theorem Coe.enc_length(d:Coe):d.enc.length=5:=by simp[Coe.enc_eq]
@[simp high] theorem Coe.enc_0(d:Coe):d.enc[0]?=some (.sl false 1 (encI d.tags)):=by simp[Coe.enc_eq]
@[simp high] theorem Coe.enc_1(d:Coe):d.enc[1]?=some (.sl false 2 (encN d.needs)):=by simp[Coe.enc_eq]
@[simp high] theorem Coe.enc_2(d:Coe):d.enc[2]?=some (.sl false 1 (encS d.names)):=by simp[Coe.enc_eq]
@[simp high] theorem Coe.enc_3(d:Coe):d.enc[3]?=some (.sl false 5 (d.fields.map Coe.enc)):=by simp[Coe.enc_eq]
@[simp high] theorem Coe.enc_4(d:Coe):d.enc[4]?=some (.sl false 5 (d.fn.map Coe.enc)):=by simp[Coe.enc_eq]
inductive Typ where
 |mk (kind:Int) (name:fC) (names:List fC) (kids:List Typ)
mutual
def Typ.enc:Typ->List D
 |.mk k n s l=>[.int .i64 k,.str n,.sl false 1 (encS s),.sl false 4 (Typ.encs l)]
def Typ.encs:List Typ->List (List D)
 |[]=>[]
 |t::l=>Typ.enc t::Typ.encs l
end
def Typ.encs_map(l:List Typ):Typ.encs l=l.map Typ.enc:=by
 induction l with
 |nil=>simp[Typ.encs]
 |cons c l ih=>simp[Typ.encs,ih]
def Typ.kind:Typ->Int|.mk k _ _ _=>k
def Typ.name:Typ->fC|.mk _ n _ _=>n
def Typ.names:Typ->List fC|.mk _ _ s _=>s
def Typ.kids:Typ->List Typ|.mk _ _ _ l=>l
def Typ.enc_eq(t:Typ):t.enc=[.int .i64 t.kind,.str t.name,.sl false 1 (encS t.names),.sl false 4 (t.kids.map Typ.enc)]:=by
 cases t;simp[Typ.enc,Typ.encs_map,Typ.kind,Typ.name,Typ.names,Typ.kids]
@[simp] theorem Typ.enc_length(t:Typ):t.enc.length=4:=by rw[t.enc_eq];try rfl
@[simp] theorem Typ.enc_0(t:Typ):t.enc[0]?=some (.int .i64 t.kind):=by rw[t.enc_eq];try rfl
@[simp] theorem Typ.enc_1(t:Typ):t.enc[1]?=some (.str t.name):=by rw[t.enc_eq];try rfl
@[simp] theorem Typ.enc_2(t:Typ):t.enc[2]?=some (.sl false 1 (encS t.names)):=by rw[t.enc_eq];try rfl
@[simp] theorem Typ.enc_3(t:Typ):t.enc[3]?=some (.sl false 4 (t.kids.map Typ.enc)):=by rw[t.enc_eq];try rfl
@[simp] theorem Typ.enc_g0(t:Typ)(h:0<t.enc.length):t.enc[0]=.int .i64 t.kind:=by have:=t.enc_0;rw[aA h]at this;exact bK this
@[simp] theorem Typ.enc_g2(t:Typ)(h:2<t.enc.length):t.enc[2]=.sl false 1 (encS t.names):=by have:=t.enc_2;rw[aA h]at this;exact bK this
@[simp] theorem Typ.enc_g3(t:Typ)(h:3<t.enc.length):t.enc[3]=.sl false 4 (t.kids.map Typ.enc):=by have:=t.enc_3;rw[aA h]at this;exact bK this
def noT:Typ:=.mk 0 (bs []) [] []
structure Tok where
 kind:Int
 text:fC
 line:Int
 col:Int
def Tok.enc(t:Tok):List D:=[.int .i64 t.kind,.str t.text,.int .i64 t.line,.int .i64 t.col]
def zfi:Tok:=⟨0,bs [],0,0⟩
@[simp] theorem Tok.enc_length(t:Tok):t.enc.length=4:=rfl
@[simp] theorem Tok.enc_0(t:Tok):t.enc[0]?=some (.int .i64 t.kind):=rfl
@[simp] theorem Tok.enc_1(t:Tok):t.enc[1]?=some (.str t.text):=rfl
@[simp] theorem Tok.enc_2(t:Tok):t.enc[2]?=some (.int .i64 t.line):=rfl
@[simp] theorem Tok.enc_3(t:Tok):t.enc[3]?=some (.int .i64 t.col):=rfl
@[simp] theorem Tok.enc_g0(t:Tok)(h:0<t.enc.length):t.enc[0]=.int .i64 t.kind:=rfl
@[simp] theorem Tok.enc_g1(t:Tok)(h:1<t.enc.length):t.enc[1]=.str t.text:=rfl
@[simp] theorem Tok.enc_g2(t:Tok)(h:2<t.enc.length):t.enc[2]=.int .i64 t.line:=rfl
@[simp] theorem Tok.enc_g3(t:Tok)(h:3<t.enc.length):t.enc[3]=.int .i64 t.col:=rfl
@[simp] theorem Tok.cut_enc(t:Tok):cut t.enc 0 4=t.enc:=rfl
@[simp] theorem Tok.cut_map(t:Tok):cut (t.enc.map AC.d) 0 4=t.enc.map .d:=rfl
inductive Nod where
 |mk (kind:Int) (text:fC) (n line col:Int) (types:List Typ) (names:List fC) (kids:List Nod)
mutual
def Nod.enc:Nod->List D
 |.mk k t n a b ts ns ks=>[.int .i64 k,.str t,.int .i64 n,.int .i64 a,.int .i64 b,.sl false 4 (ts.map Typ.enc),.sl false 1 (encS ns),.sl false 8 (Nod.encs ks)]
def Nod.encs:List Nod->List (List D)
 |[]=>[]
 |n::l=>Nod.enc n::Nod.encs l
end
def Nod.encs_map(l:List Nod):Nod.encs l=l.map Nod.enc:=by
 induction l with
 |nil=>rfl
 |cons n l ih=>simp[Nod.encs,ih]
def noN:Nod:=.mk 0 (bs []) 0 0 0 [] [] []
def Nod.kind:Nod->Int|.mk k _ _ _ _ _ _ _=>k
def Nod.text:Nod->fC|.mk _ t _ _ _ _ _ _=>t
def Nod.n:Nod->Int|.mk _ _ n _ _ _ _ _=>n
def Nod.line:Nod->Int|.mk _ _ _ a _ _ _ _=>a
def Nod.col:Nod->Int|.mk _ _ _ _ b _ _ _=>b
def Nod.types:Nod->List Typ|.mk _ _ _ _ _ t _ _=>t
def Nod.names:Nod->List fC|.mk _ _ _ _ _ _ s _=>s
def Nod.kids:Nod->List Nod|.mk _ _ _ _ _ _ _ l=>l
def Nod.enc_eq(t:Nod):t.enc=[.int .i64 t.kind,.str t.text,.int .i64 t.n,.int .i64 t.line,.int .i64 t.col,.sl false 4 (t.types.map Typ.enc),.sl false 1 (encS t.names),.sl false 8 (t.kids.map Nod.enc)]:=by
 cases t;simp[Nod.enc,Nod.encs_map,Nod.kind,Nod.text,Nod.n,Nod.line,Nod.col,Nod.types,Nod.names,Nod.kids]
@[simp] theorem Nod.enc_length(t:Nod):t.enc.length=8:=by rw[t.enc_eq];try rfl
def bA(l:List UInt8):fC:=⟨l.toArray⟩
def letV(c:Int):Bool:=decide (97<=c/\c<=122\/65<=c/\c<=90\/c=95)
def digV(c:Int):Bool:=decide (48<=c/\c<=57)
def letU(b:UInt8):Bool:=letV b.toNat
def digU(b:UInt8):Bool:=digV b.toNat
def blkL:Bool->List UInt8->Nat
 |_,[]=>0
 |true,c::l=>blkL (decide (c≠10)) l+1
 |false,c::l=>if c=35 then blkL true l+1 else if c=32\/c=9\/c=10\/c=13 then blkL false l+1 else 0
def runL(num:Bool):List UInt8->Nat
 |[]=>0
 |b::l=>if(digU b||(!num&&letU b))=true then runL num l+1 else 0
def quoL:List UInt8->Option (List UInt8 × Nat)
 |[]=>none
 |c::l=>if c=34 then some ([],1)else if c<32 then none else if c≠92 then(quoL l).map fun x=>(c::x.1,x.2+1)else
  match l with
  |[]=>none
  |d::l=>if d=92\/d=34 then(quoL l).map fun x=>(d::x.1,x.2+2)else if d=110 then(quoL l).map fun x=>(10::x.1,x.2+2)else if d=116 then(quoL l).map fun x=>(9::x.1,x.2+2)else none
def twoL:List (List UInt8):=[[45,62],[61,62],[60,58],[60,60],[60,61],[62,62],[61,61],[43,43]]
def oneL:List UInt8:=[40,41,123,125,91,93,44,58,59,61,43,45,42,47,37,38,94,60,124,46]
def zgP(l:List UInt8):Nat:=if(twoL.any fun t=>decide (l.take 2=t))=true then 2 else match l with
 |[]=>0
 |c::_=>if c∈oneL then 1 else 0
def numL:List UInt8->Nat->Option Nat
 |[],n=>some n
 |c::l,n=>if digU c=true then numL l (10*n+(c.toNat-48))else none
def zg1(l:List UInt8):Int × Bool:=
 if l.length=0\/19<l.length\/(l.head?=some 48/\1<l.length)then(0,false)else match numL l 0 with
 |none=>(0,false)
 |some n=>if 9223372036854775807<n then(0,false)else(n,true)
def zdG(s:fC):Int × Bool:=zg1 s.data.toList
def ziT:List fC:=[bs [97,110,100],bs [97,110,121],bs [97,115],bs [98,111,111,108],bs [101,108,115,101],bs [101,120,112,111,114,116],bs [102,97,108,115,101],bs [102,110],bs [102,117,110,99,116,105,111,110],bs [105,102],bs [105,109,112,111,114,116],bs [105,110],bs [105,110,116],bs [105,115],bs [108,101,116],bs [110,111,116],bs [110,117,108,108],bs [111,114],bs [112,114,105,110,116],bs [114,101,97,100],bs [114,101,99,111,114,100],bs [115,116,114],bs [116,104,101,110],bs [116,114,117,101],bs [119,105,116,104]]
def zk4(s:fC):Bool:=ziT.any fun w=>decide (w=s)
def zbg(s:fC):Bool:=match s.data.toList with
 |[]=>false
 |c::l=>decide (s.size<=32)&&(!zk4 s&&(!digU c&&(c::l).all fun b=>letU b||digU b))
structure TokR where
 kind:Int
 text:List UInt8
 len:Nat
 e:Int
def badR(e:Int):TokR:=⟨0,[],0,e⟩
def tokL:List UInt8->TokR
 |[]=>badR 5
 | c::r=>
  if letU c=true then
   (if 32<runL false (c::r)then badR 2 else⟨if zk4 (bA ((c::r).take (runL false (c::r))))=true then 2 else 1,(c::r).take (runL false (c::r)),runL false (c::r),0⟩)
  else if digU c=true then
   (if(zg1 ((c::r).take (runL true (c::r)))).2=true then⟨3,(c::r).take (runL true (c::r)),runL true (c::r),0⟩else badR 3)
  else if c=34 then(match quoL r with
   |none=>badR 4
   |some (t,n)=>if 256<t.length then badR 2 else⟨4,t,n+1,0⟩)
  else if zgP (c::r)=0 then badR 5 else⟨5,(c::r).take (zgP (c::r)),zgP (c::r),0⟩
def zbV:List UInt8->Int->Int->Int × Int
 |[],a,b=>(a,b)
 |c::l,a,b=>if c=10 then zbV l (a+1) 1 else zbV l a (b+1)
structure Dia where
 module:Int
 line:Int
 col:Int
 e:Int
def Dia.enc(d:Dia):List D:=[.int .i64 d.module,.int .i64 d.line,.int .i64 d.col,.int .i64 d.e]
def noD:Dia:=⟨0,0,0,0⟩
def lexL:Nat->List UInt8->Int->Int->List Tok->List Tok × Dia
 |0,_,_,_,ts=>(ts,noD)
 | n+1,l,a,b,ts=>
  let q:=zbV (l.take (blkL false l)) a b
  let l':=l.drop (blkL false l)
  if l'=[]then(ts++[⟨0,bs [],q.1,q.2⟩],noD)
  else
   let t:=tokL l'
   let e:=if t.e=0/\ts.length=8192 then 19 else t.e
   if e≠0 then([],⟨0,q.1,q.2,e⟩)else lexL n (l'.drop t.len) q.1 (q.2+t.len) (ts++[⟨t.kind,bA t.text,q.1,q.2⟩])
def lexP(s:fC):List Tok × Dia:=if 65536<s.size then([],⟨0,1,1,2⟩)else lexL (s.size+1) s.data.toList 1 1 []
structure PS where
  at':Nat
  deep:Nat
  e:Int
  line:Int
  col:Int
section
variable (L:List Tok)
def curT(p:PS):Tok:=L.getD p.at' zfi
def zen(e:Int)(p:PS):PS:=if p.e=0 then {p with e:=e,line:=(curT L p).line,col:=(curT L p).col}else p
def znM(s:fC)(p:PS):Bool:=decide (p.e=0)&&((decide ((curT L p).kind=2)||decide ((curT L p).kind=5))&&decide ((curT L p).text=s))
def zad(s:fC)(p:PS):Bool × PS:=if znM L s p=true then(true,{p with at':=p.at'+1})else(false,p)
def zaA(s:fC)(p:PS):PS:=if(zad L s p).1=true then(zad L s p).2 else zen L 7 p
def zaw(p:PS):fC × PS:=if p.e=0/\(curT L p).kind=1 then((curT L p).text,{p with at':=p.at'+1})else(bs [],zen L 7 p)
def zgm(p:PS):PS:=if 100<=p.deep then zen L 6 p else p
def zau(p:PS):Bool × PS:=if(zgm L p).e≠0 then(false,zgm L p)else(true,{zgm L p with deep:=p.deep+1})
end
section
variable (L:List Tok)
def zeU:List fC:=[bs [97,110,121],bs [110,117,108,108],bs [98,111,111,108],bs [105,110,116],bs [115,116,114]]
def zdX:Nat->List fC->PS->Option (Nat × PS)
  |_,[],_=>none
  |i,s::l,p=>if(zad L s p).1=true then some (i,(zad L s p).2)else zdX (i+1) l p
def zeV (ki:PS->Typ × PS):Nat->List fC->List Typ->PS->(List fC × List Typ) × PS
  |0,ns,ks,p=>((ns,ks),p)
  | n+1,ns,ks,p=>
    let a:=zaw L p
    let k:=ki (zaA L (bs [58]) a.2)
    let m:=zad L (bs [44]) k.2
    if m.1=true then zeV ki n (ns++[a.1]) (ks++[k.1]) m.2 else((ns++[a.1],ks++[k.1]),m.2)
def zqX (ki:PS->Typ × PS) (p:PS):Typ × PS:=
    if(zad L (bs [40]) p).1=true then((ki (zad L (bs [40]) p).2).1,zaA L (bs [41]) (ki (zad L (bs [40]) p).2).2)
    else if(zad L (bs [123]) p).1=true then
      (if(zad L (bs [125]) (zad L (bs [123]) p).2).1=true then(.mk 5 (bs []) [] [],(zad L (bs [125]) (zad L (bs [123]) p).2).2)
      else(.mk 5 (bs []) (zeV L ki (L.length+1) [] [] (zad L (bs [123]) p).2).1.1 (zeV L ki (L.length+1) [] [] (zad L (bs [123]) p).2).1.2,zaA L (bs [125]) (zeV L ki (L.length+1) [] [] (zad L (bs [123]) p).2).2))
    else(.mk 8 (zaw L p).1 [] [],(zaw L p).2)
def zcA(ki:PS->Typ × PS)(p:PS):Typ × PS:=match zdX L 0 zeU p with
  |some (i,q)=>(.mk i (bs []) [] [],q)
  |none=>zqX L ki p
def altN (ki:PS->Typ × PS):Nat->List Typ->PS->List Typ × PS
  |0,l,p=>(l,p)
  | n +1,l,p=>if(zad L (bs [124]) p).1=true then
      let t:=zcA L ki (zad L (bs [124]) p).2
      altN ki n (l++[t.1]) t.2
    else(l,p)
def zzu:List Typ->Typ
  |[t]=>t
  |l=>.mk 7 (bs []) [] l
def zDA{l:List Typ}(h:l.length≠1):zzu l=.mk 7 (bs []) [] l:=by
  match l,h with
  |[],_=>rfl
  |_::_::_,_=>rfl
def altP(ki:PS->Typ × PS)(p:PS):Typ × PS:=
  let a:=zcA L ki p
  let r:=altN L ki (L.length+1) [a.1] a.2
  (zzu r.1,r.2)
def zqY(ki:PS->Typ × PS)(p:PS):Typ × PS:=
  let a:=altP L ki p
  let m:=zad L (bs [45,62]) a.2
  if m.1=true then(.mk 6 (bs []) [] [a.1,(ki m.2).1],(ki m.2).2)else(a.1,m.2)
def zds{α:Type}(x:α × PS):α × PS:=(x.1,{x.2 with deep:=x.2.deep-1})
def zeo:Nat->PS->Typ × PS
  |0=>fun p=>(noT,p)
  |d+1=>fun p=>if(zau L p).1=true then zds (zqY L (zeo d) (zau L p).2)else(noT,(zau L p).2)
def zbW(ki:PS->Typ × PS)(p:PS):List Typ × PS:=if(zad L (bs [58]) p).1=true then([(ki (zad L (bs [58]) p).2).1],(ki (zad L (bs [58]) p).2).2)else([],p)
end
section
variable (L:List Tok)
def mkN(p:PS)(k:Int)(t:fC)(n:Int)(ts:List Typ)(ns:List fC)(ks:List Nod):Nod:=.mk k t n (curT L p).line (curT L p).col ts ns ks
abbrev wLet:=bs [108,101,116]
abbrev wIf:=bs [105,102]
abbrev zk9:=bs [116,104,101,110]
abbrev zla:=bs [101,108,115,101]
abbrev wFn:=bs [102,110]
def zcB(ki:PS->Typ × PS)(p:PS):(fC × List Typ) × PS:=
  let s:=zaw L (zaA L (bs [40]) p)
  let a:=zbW L ki s.2
  let b:=zbW L ki (zaA L (bs [41]) a.2)
  ((s.1,(if a.1.length=0 then [noT]else a.1)++b.1),b.2)
def zg0 (ki:PS->Typ × PS) (ex rk:PS->Nod × PS) (p:PS):Nod × PS:=
  if(zad L wLet p).1=true then
    let s:=zaw L (zad L wLet p).2
    let t:=zbW L ki s.2
    let v:=ex (zaA L (bs [61]) t.2)
    let b:=ex (zaA L (bs [59]) v.2)
    (mkN L p 5 s.1 0 t.1 [] [v.1,b.1],b.2)
  else if(zad L wIf p).1=true then
    let c:=ex (zad L wIf p).2
    let a:=ex (zaA L zk9 c.2)
    let b:=ex (zaA L zla a.2)
    (mkN L p 11 (bs []) 0 [] [] [c.1,a.1,b.1],b.2)
  else if(zad L wFn p).1=true then
    let h:=zcB L ki (zad L wFn p).2
    let b:=ex (zaA L (bs [61,62]) h.2)
    (mkN L p 6 h.1.1 0 h.1.2 [] [b.1],b.2)
  else rk p
def zeW:List fC->PS->Option (fC × PS)
  |[],_=>none
  |s::l,p=>if(zad L s p).1=true then some (s,(zad L s p).2)else zeW l p
def opsP (rk:PS->Nod × PS) (signs:List fC):Nat->Nod->PS->Nod × PS
  |0,a,p=>(a,p)
  | n+1,a,p=>match zeW L signs p with
    |none=>(a,p)
    |some (s,q)=>opsP rk signs n (mkN L p 14 s 0 [] [] [a,(rk q).1]) (rk q).2
def zbY:Nat->List fC
  |0=>[bs [111,114]]
  |1=>[bs [97,110,100]]
  |3=>[bs [43,43]]
  |4=>[bs [43],bs [45],bs [94]]
  |5=>[bs [42],bs [47],bs [37],bs [38],bs [60,60],bs [62,62]]
  |_=>[]
def zeX:List fC:=[bs [110,117,108,108],bs [98,111,111,108],bs [105,110,116],bs [115,116,114],bs [114,101,99,111,114,100],bs [102,117,110,99,116,105,111,110]]
def cmpP (ki:PS->Typ × PS) (rk:PS->Nod × PS) (p:PS):Nod × PS:=
  let a:=rk p
  match zeW L [bs [60],bs [60,61],bs [61,61]] a.2 with
  |some (s,q)=>(mkN L a.2 14 s 0 [] [] [a.1,(rk q).1],(rk q).2)
  | none=>
    if(zad L (bs [97,115]) a.2).1=true then
      let t:=ki (zad L (bs [97,115]) a.2).2
      (mkN L a.2 13 (bs []) 0 [t.1] [] [a.1],t.2)
    else if(zad L (bs [105,115]) a.2).1=true then
      match zdX L 0 zeX (zad L (bs [105,115]) a.2).2 with
      |some (i,q)=>(mkN L a.2 12 (bs []) i [] [] [a.1],q)
      |none=>(mkN L a.2 12 (bs []) 0 [] [] [a.1],zen L 7 (zad L (bs [105,115]) a.2).2)
    else a
def zlb(un:PS->Nod × PS)(p:PS):Nod × PS:=opsP L un (zbY 5) (L.length+1) (un p).1 (un p).2
def zlc(un:PS->Nod × PS)(p:PS):Nod × PS:=opsP L (zlb L un) (zbY 4) (L.length+1) (zlb L un p).1 (zlb L un p).2
def zqZ(un:PS->Nod × PS)(p:PS):Nod × PS:=opsP L (zlc L un) (zbY 3) (L.length+1) (zlc L un p).1 (zlc L un p).2
def zld(ki:PS->Typ × PS)(un:PS->Nod × PS)(p:PS):Nod × PS:=cmpP L ki (zqZ L un) p
def zle(ki:PS->Typ × PS)(un:PS->Nod × PS)(p:PS):Nod × PS:=opsP L (zld L ki un) (zbY 1) (L.length+1) (zld L ki un p).1 (zld L ki un p).2
def zq0(ki:PS->Typ × PS)(un:PS->Nod × PS)(p:PS):Nod × PS:=opsP L (zle L ki un) (zbY 0) (L.length+1) (zle L ki un p).1 (zle L ki un p).2
def zdt (ki:PS->Typ × PS):Nat->List Typ->PS->List Typ × PS
  |0,l,p=>(l,p)
  | n+1,l,p=>
    let t:=ki p
    let m:=zad L (bs [44]) t.2
    if m.1=true then zdt ki n (l++[t.1]) m.2 else(l++[t.1],zaA L (bs [93]) m.2)
def zdu (ex:PS->Nod × PS):Nat->List fC->List Nod->PS->(List fC × List Nod) × PS
  |0,ns,ks,p=>((ns,ks),p)
  | n+1,ns,ks,p=>
    let s:=zaw L p
    let k:=ex (zaA L (bs [58]) s.2)
    let m:=zad L (bs [44]) k.2
    if m.1=true then zdu ex n (ns++[s.1]) (ks++[k.1]) m.2 else((ns++[s.1],ks++[k.1]),m.2)
abbrev zlf:=bs [119,105,116,104]
def zct (ex:PS->Nod × PS) (q p:PS):Nod × PS:=
  if(zad L (bs [125]) p).1=true then(mkN L q 8 (bs []) 0 [] [] [],(zad L (bs [125]) p).2)
  else if p.e≠0\/(curT L p).kind≠1\/(L.getD (p.at'+1) zfi).kind≠5\/(L.getD (p.at'+1) zfi).text≠bs [58]then
    let a:=ex p
    let s:=zaw L (zaA L zlf a.2)
    let b:=ex (zaA L (bs [58]) s.2)
    (mkN L q 10 s.1 0 [] [] [a.1,b.1],zaA L (bs [125]) b.2)
  else
    let r:=zdu L ex (L.length+1) [] [] p
    (mkN L q 8 (bs []) 0 [] r.1.1 r.1.2,zaA L (bs [125]) r.2)
end
section
variable (L:List Tok)
abbrev zlg:=bs [116,114,117,101]
abbrev ziV:=bs [102,97,108,115,101]
abbrev zlh:=bs [110,117,108,108]
abbrev zgn:=bs [114,101,97,100]
abbrev zd3:=bs [112,114,105,110,116]
def numV(s:fC):Int:=(zdG s).1
def zeY (ki:PS->Typ × PS) (ex:PS->Nod × PS) (p:PS):Nod × PS:=
  if p.e=0/\(curT L p).kind=3 then(mkN L p 0 (bs []) (numV (curT L p).text) [] [] [],{p with at':=p.at'+1})
  else if p.e=0/\(curT L p).kind=4 then(mkN L p 1 (curT L p).text 0 [] [] [],{p with at':=p.at'+1})
  else if(zad L zlg p).1=true then(mkN L p 2 (bs []) 1 [] [] [],(zad L zlg p).2)
  else if(zad L ziV p).1=true then(mkN L p 2 (bs []) 0 [] [] [],(zad L ziV p).2)
  else if(zad L zlh p).1=true then(mkN L p 3 (bs []) 0 [] [] [],(zad L zlh p).2)
  else if(zad L zgn p).1=true then(mkN L p 18 (bs []) 0 [] [] [],zaA L (bs [41]) (zaA L (bs [40]) (zad L zgn p).2))
  else if(zad L zd3 p).1=true then
    let k:=ex (zaA L (bs [40]) (zad L zd3 p).2)
    (mkN L p 17 (bs []) 0 [] [] [k.1],zaA L (bs [41]) k.2)
  else if(zad L (bs [40]) p).1=true then((ex (zad L (bs [40]) p).2).1,zaA L (bs [41]) (ex (zad L (bs [40]) p).2).2)
  else if(zad L (bs [123]) p).1=true then zct L ex p (zad L (bs [123]) p).2
  else
    let s:=zaw L p
    if(zad L (bs [91]) s.2).1=true then
      let t:=zdt L ki (L.length+1) [] (zad L (bs [91]) s.2).2
      (mkN L p 19 s.1 0 t.1 [] [],t.2)
    else(mkN L p 4 s.1 0 [] [] [],s.2)
def zcT (ex:PS->Nod × PS):Nat->Nod->PS->Nod × PS
  |0,a,p=>(a,p)
  | n +1,a,p=>
    if(zad L (bs [40]) p).1=true then
      let b:=ex (zad L (bs [40]) p).2
      zcT ex n (mkN L p 7 (bs []) 0 [] [] [a,b.1]) (zaA L (bs [41]) b.2)
    else if(zad L (bs [46]) p).1=true then
      let s:=zaw L (zad L (bs [46]) p).2
      zcT ex n (mkN L p 9 s.1 0 [] [] [a]) s.2
    else(a,p)
def zli(ki:PS->Typ × PS)(ex:PS->Nod × PS)(p:PS):Nod × PS:=
  let a:=zeY L ki ex p
  zcT L ex (L.length+1) a.1 a.2
abbrev wNot:=bs [110,111,116]
def zff (ki:PS->Typ × PS) (ex un:PS->Nod × PS) (p:PS):Nod × PS:=
  if(zad L (bs [45]) p).1=true then
    let k:=un (zad L (bs [45]) p).2
    (mkN L p 16 (bs []) 0 [] [] [k.1],k.2)
  else if(zad L wNot p).1=true then
    let k:=un (zad L wNot p).2
    (mkN L p 15 (bs []) 0 [] [] [k.1],k.2)
  else zli L ki ex p
def euP (ki:PS->Typ × PS):Nat->(PS->Nod × PS) × (PS->Nod × PS)
  |0=>(fun p=>(noN,p),fun p=>(noN,p))
  | d+1=>
    (fun p=>if(zau L p).1=true then zds (zg0 L ki (euP ki d).1 (zq0 L ki (euP ki d).2) (zau L p).2)else(noN,(zau L p).2),
     fun p=>if(zau L p).1=true then zds (zff L ki (euP ki d).1 (euP ki d).2 (zau L p).2)else(noN,(zau L p).2))
def kiP:PS->Typ × PS:=zeo L 102
def exP:PS->Nod × PS:=(euP L (kiP L) 102).1
def zcF:Nat->List fC->PS->List fC × PS
  |0,l,p=>(l,p)
  | n+1,l,p=>
    let s:=zaw L p
    let m:=zad L (bs [44]) s.2
    if m.1=true then zcF n (l++[s.1]) m.2 else(l++[s.1],m.2)
def zgo:Nat->List (fC × Typ)->PS->List (fC × Typ) × PS
  |0,l,p=>(l,p)
  | n+1,l,p=>
    let s:=zaw L p
    let t:=if(zad L (bs [60,58]) s.2).1=true then kiP L (zad L (bs [60,58]) s.2).2 else(noT,s.2)
    let m:=zad L (bs [44]) t.2
    if m.1=true then zgo n (l++[(s.1,t.1)]) m.2 else(l++[(s.1,t.1)],zaA L (bs [93]) m.2)
def zgp(p:PS):List (fC × Typ) × PS:=if(zad L (bs [91]) p).1=true then zgo L (L.length+1) [] (zad L (bs [91]) p).2 else([],p)
structure Imp where
  from_:fC
  names:List fC
  line:Int
  col:Int
structure Dec where
  name:fC
  exp:Bool
  vars:List (fC × Typ)
  param:fC
  types:List Typ
  body:Nod
  line:Int
  col:Int
structure Mdl where
  imps:List Imp
  decs:List Dec
abbrev zcZ:=bs [105,109,112,111,114,116]
abbrev zeZ:=bs [101,120,112,111,114,116]
def ze0:Nat->List Imp->PS->List Imp × PS
  |0,l,p=>(l,p)
  | n +1,l,p=>if p.e=0/\(zad L zcZ p).1=true then
      let s:=zaw L (zad L zcZ p).2
      let ns:=zcF L (L.length+1) [] (zaA L (bs [58]) s.2)
      ze0 n (l++[⟨s.1,ns.1,(curT L p).line,(curT L p).col⟩]) (zaA L (bs [59]) ns.2)
    else(l,p)
def decP(p:PS):Dec × PS:=
  let x:=zad L zeZ p
  let s:=zaw L (zaA L wFn x.2)
  let v:=zgp L s.2
  let h:=zcB L (kiP L) v.2
  let b:=exP L (zaA L (bs [61]) h.2)
  (⟨s.1,x.1,v.1,h.1.1,if h.1.2.length=1 then h.1.2++[noT]else h.1.2,b.1,(curT L x.2).line,(curT L x.2).col⟩,zaA L (bs [59]) b.2)
def zcC:Nat->List Dec->PS->List Dec × PS
  |0,l,p=>(l,p)
  |n+1,l,p=>if p.e=0/\(curT L p).kind≠0 then zcC n (l++[(decP L p).1]) (decP L p).2 else(l,p)
def zfL(p:PS):Mdl × PS:=
  let i:=ze0 L (L.length+1) [] p
  let d:=zcC L (L.length+1) [] i.2
  (⟨i.1,d.1⟩,d.2)
end
structure OkL (L:List Tok):Prop where
  pos:0<L.length
  mid:∀i,i<L.length->(L.getD i zfi).kind≠0->i+1<L.length
structure Tm (L:List Tok) (p q:PS):Prop where
  deep:q.deep=p.deep
  le:p.at'<=q.at'
  lt:q.at'<L.length
  bad:p.e≠0->q.e≠0
section
variable {L:List Tok}
def Tm.refl{p:PS}(h:p.at'<L.length):Tm L p p:=⟨rfl,aN _,h,id⟩
def Tm.trans{p q r:PS}(h:Tm L p q)(k:Tm L q r):Tm L p r:=⟨k.deep.trans h.deep,ak h.le k.le,k.lt,fun x=>k.bad (h.bad x)⟩
def zh2{e:Int}{p:PS}(h:p.at'<L.length):Tm L p (zen L e p):=by
  unfold zen
  split
  · rename_i q
    exact⟨rfl,aN _,h,fun x=>absurd q x⟩
  · exact Tm.refl h
def znc{e:Int}{p:PS}(h:e≠0):(zen L e p).e≠0:=by
  unfold zen
  split
  · exact h
  · rename_i q;exact q
def zai(hL:OkL L){s:fC}{p:PS}(h:p.at'<L.length):Tm L p (zad L s p).2:=by
  unfold zad
  split
  · rename_i q
    unfold znM curT at q
    simp only[aD,cu,aI]at q
    refine⟨rfl,by simp,hL.mid _ h (by omega),fun x=>absurd q.1 x⟩
  · exact Tm.refl h
def take_at{s:fC}{p:PS}(h:(zad L s p).1=true):(zad L s p).2.at'=p.at'+1/\p.e=0:=by
  unfold zad at h⊢
  split
  · rename_i q
    unfold znM at q
    simp only[aD,aI]at q
    exact⟨rfl,q.1⟩
  · rename_i q
    rw[aB q]at h;cases h
def zaK{s:fC}{p:PS}(h:¬(zad L s p).1=true):(zad L s p).2=p:=by
  unfold zad at h⊢
  split
  · rename_i q
    rw[aC q]at h;exact absurd rfl h
  · rfl
def zam(hL:OkL L){s:fC}{p:PS}(h:p.at'<L.length):Tm L p (zaA L s p):=by
  unfold zaA
  split
  · exact zai hL h
  · exact zh2 h
def zFf{s:fC}{p:PS}:(zaA L s p).e≠0\/(zaA L s p).at'=p.at'+1:=by
  unfold zaA
  split
  · rename_i q;exact .inr (take_at q).1
  · exact .inl (znc (by decide))
def zaR(hL:OkL L){p:PS}(h:p.at'<L.length):Tm L p (zaw L p).2:=by
  unfold zaw
  split
  · rename_i q
    exact⟨rfl,by simp,hL.mid _ h (by unfold curT at q;omega),fun x=>absurd q.1 x⟩
  · exact zh2 h
def znN{p:PS}(h:p.at'<L.length):Tm L p (zgm L p):=by
  unfold zgm
  split
  · exact zh2 h
  · exact Tm.refl h
end
end Go.Gr
