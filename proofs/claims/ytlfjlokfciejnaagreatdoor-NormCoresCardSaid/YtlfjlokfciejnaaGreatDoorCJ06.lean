/- Texts of ours, joined and written short by a program of ours. -/
import Derived.Test.YtlfjlokfciejnaaGreatDoorCJ05
import Derived.Test.YtlfjlokfciejnaaGreatDoorChecked
import Derived.KernelRfl
set_option maxRecDepth 20000
set_option maxHeartbeats 4000000
set_option linter.unusedVariables false
set_option linter.unusedSimpArgs false
namespace Go.Abs
def xG:List Nat->List AV->List (Nat × AV)
|k::ks,v::vs=>(k,v)::xG ks vs
|_,_=>[]
def Cj(S:St)(ks:List Nat):List Nat->List (Nat × AV)
|[]=>[]
|k::r=>if k∈ks then Cj S ks r else(k,S.get k)::Cj S ks r
attribute [simp] xG Cj
theorem W.loopL{P:Program}{c:Ctx}{Q:Exit->St->Prop}{S:St}{Y:Type}(hm:P.follows .mixedOrders=true)(hp:c.pure){body:MC}{g:Tag (body,Q)}(live ks:List Nat)(I:Y->Prop)(ch:Y->List AV)(bs:Y->List Blk)(μ:Y->Nat)(x0:Y)(l0:List Nat)(hI:I x0)
  (h0:iM l0 S (xG ks (ch x0)++Cj S ks live) (bs x0))
  (round:∀x,I x->w_ P c body (yU (Next I (λx=>xG ks (ch x)++Cj S ks live) bs μ x ⟨⟩) Q) ⟨⟩ (hd (xG ks (ch x)++Cj S ks live) (bs x))):lU P c body Q g S:=
 fU hm hp I (λx=>xG ks (ch x)++Cj S ks live) bs μ x0 l0 hI h0 round
abbrev fV:=@W.loopL
def su:Nat->List AV->List (Nat × AV)
|_,[]=>[]
|i,v::vs=>(i,v)::su (i+1) vs
def uQ:Nat->List (Nat × Nat)->List Blk
|_,[]=>[]
|i,t::ts=>.pin t i::uQ (i+1) ts
def AC.ok:AC->Prop
|.d x=>x.ok
|_=>True
def AC.okL:List AC->Prop
|[]=>True
|c::cs=>c.ok/\AC.okL cs
def AV.ok:AV->Prop
|.c x=>x.ok
|.ag cs=>AC.okL cs
|_=>True
def AV.okL:List AV->Prop
|[]=>True
|v::vs=>v.ok/\AV.okL vs
def AC.okE(s:Nat):List (List AC)->Prop
|[]=>True
|e::es=>(e.length=s/\AC.okL e)/\AC.okE s es
def Blk.ok:Blk->Prop
|.box cs=>AC.okL cs
|.arr s es=>es.length<=zah/\AC.okE s es
|_=>True
section
variable {h:PH} {ρ:RM}
theorem RepC.ok:∀{x:AC} {v:Value},RepC h ρ x v->x.ok
|.d x,v,r=>by simp only[RepC]at r;exact RepD.ok _ _ r
|.ptr _ _,_,_=>trivial
|.ept _ _ _ _,_,_=>trivial
|.msl _ _ _ _,_,_=>trivial
|.map _,_,_=>trivial
|.fn _ _,_,_=>trivial
|.op _,_,_=>trivial
theorem iJ.ok:∀{cs:List AC} {vs:List Value},iJ h ρ cs vs->AC.okL cs
|[],_,_=>trivial
|_::_,[],r=>by simp[iJ]at r
|c::cs,v::vs,r=>by
 simp only[iJ]at r;exact⟨r.1.2.ok,r.2.ok⟩
theorem RepV.ok:∀{x:AV} {v:Value},RepV h ρ x v->x.ok
|.c x,v,r=>by simp only[RepV]at r;exact RepC.ok r
|.ag cs,v,r=>by
 simp only[RepV]at r;obtain⟨vs,_,_,r⟩:=r;exact r.ok
|.tup _,_,_=>trivial
theorem zai.ok:∀{xs:List AV} {vs:List Value},zai h ρ xs vs->AV.okL xs
|[],_,_=>trivial
|_::_,[],r=>by simp[zai]at r
|x::xs,v::vs,r=>by
 simp only[zai]at r;exact⟨r.1.ok,r.2.ok⟩
theorem iR.ok{s:Nat}:∀{es:List (List AC)} {vs:List Value},iR h ρ s es vs->AC.okE s es
|[],_,_=>trivial
|e::es,vs,r=>by
 simp only[iR]at r;exact⟨⟨r.1,r.2.1.ok⟩,r.2.2.ok⟩
theorem zaI.ok{p:Nat × Nat}{blk:Blk}{w:Heap}(r:zaI h ρ p blk w):blk.ok:=by
 cases blk with
 |box cs=>obtain⟨vs,T,_,_,r⟩:=r;exact r.ok
 |arr s es=>
  rcases r with⟨_,rfl⟩|⟨vs,T,_,_,_,h4,r⟩
  ·exact⟨by simp,trivial⟩
  ·exact⟨h4,r.ok⟩
 |_=>trivial
theorem zai.len:∀{xs:List AV} {vs:List Value},zai h ρ xs vs->vs.length=xs.length
|[],vs,r=>by simp only[zai]at r;subst r;rfl
|_::_,[],r=>by simp[zai]at r
|x::xs,v::vs,r=>by simp only[zai]at r;simp[r.2.len]
end
def qg(S:St)(l:List Nat):List Nat->List Blk->Prop
|[],[]=>True
|j::js,b::bs=>(b=.dead\/S.m j=b.ren (jJ l))/\qg S l js bs
|_,_=>False
def pO(S:St)(l:List Nat):List Nat->List Nat->List (Nat × Nat)->List Blk->Prop
|_,_,[],_=>True
|j::js,q::qs,t::ts,b::bs=>(b=.dead\/S.m q=.pin t j)/\pO S l js qs ts bs
|_,_,_,_=>False
def nK(v:AV)(bs':List Blk)(ts:List (Nat × Nat))(vs:List AV)(S:St):Prop:=
∃l qs:List Nat,l.Nodup/\(∀(h:PH) (ρ:RM) (vC:Value),RepV h ρ (one? vs) vC->RepV h ρ (v.ren (jJ l)) vC)/\qg S l l bs'/\pO S l l qs ts bs'
theorem nK.mk{v:AV}{bs':List Blk}{ts:List (Nat × Nat)}{vs:List AV}{S:St}(l qs:List Nat)(h:l.Nodup/\one? vs=v.ren (jJ l)/\qg S l l bs'/\pO S l l qs ts bs'):nK v bs' ts vs S:=⟨l,qs,h.1,(λ_ _ _ r=>h.2.1▸r),h.2.2⟩
theorem nK.mkD{v:AV}{bs':List Blk}{ts:List (Nat × Nat)}{vs:List AV}{S:St}(l qs:List Nat)(h:l.Nodup/\one? vs=v.ren (jJ l)/\qg S l l bs'/\pO S l l qs ts bs':=by simp):nK v bs' ts vs S:=nK.mk l qs h
def xH(rs:List MR)(v:AV)(bs':List Blk)(ts:List (Nat × Nat)):Exit->St->Prop
|.ret,S|.normal,S=>BV S rs λvs=>nK v bs' ts vs S
|_,_=>False
@[simp] theorem zKB(rs:List MR)(v:AV)(bs':List Blk)(ts:List (Nat × Nat))(S:St):xH rs v bs' ts .ret S=EI S rs (λvs=>nK v bs' ts vs S) ⟨⟩:=(aR _).trans rfl
@[simp] theorem zJh(rs:List MR)(v:AV)(bs':List Blk)(ts:List (Nat × Nat))(S:St):xH rs v bs' ts .normal S=EI S rs (λvs=>nK v bs' ts vs S) ⟨⟩:=(aR _).trans rfl
attribute [simp] su uQ qg pO AC.lv AC.lvs AV.lv AV.lvs Blk.lv AC.lvs_D jN CZ uJ vL
theorem Sr:∀(i:Nat) (ts:List (Nat × Nat)),(uQ i ts).length=ts.length
|_,[]=>rfl
|i,t::ts=>by simp[uQ,Sr (i+1) ts]
theorem Su:∀(i:Nat) (ts:List (Nat × Nat)) (j:Nat),(uQ i ts)[j]?=(ts[j]?).map λt=>.pin t (i+j)
|_,[],j=>by simp[uQ]
|i,t::ts,0=>by simp[uQ]
|i,t::ts,j+1=>by
 simp only[uQ,List.getElem?_cons_succ];rw[Su (i+1) ts j,show i+1+j=i+(j+1) by omega]
theorem Sv{h:PH}{ρ:RM}:∀{ds:List AV} {us:List Value} (i:Nat),zai h ρ ds us->∀k,RepV h ρ (look (su i ds) k) (if i<=k then us.getD (k-i) undef else undef)
|[],us,i,_,k=>by simp[su,look,RepV,RepC,RepD]
|_::_,[],_,r,_=>by simp[zai]at r
| d::ds,u::us,i,r,k=>by
 simp only[zai]at r;simp only[su,look];by_cases hk:k=i
 ·subst hk;simp;exact r.1
 ·rw[aB hk];have:=Sv (i+1) r.2 k;by_cases hle:i<=k
  ·rw[aC hle];rw[aC (by omega)]at this;rw[show k-i=(k-(i+1))+1 from by omega];simpa using this
  ·rw[aB hle];rw[aB (by omega)]at this;exact this
theorem Sw{S:St}{l:List Nat}:∀{js:List Nat} {bs:List Blk},qg S l js bs->js.length=bs.length/\∀i,i<js.length->hpOf bs i=.dead\/S.m (js.getD i 0)=(hpOf bs i).ren (jJ l)
|[],[],_=>⟨rfl,λi hi=>by simp at hi⟩
|[],_::_,h=>by simp[qg]at h
|_::_,[],h=>by simp[qg]at h
|j::js,b::bs,h=>by
 simp only[qg]at h;obtain⟨h1,h2⟩:=Sw h.2;refine⟨by simp[h1],λi hi=>?_⟩;cases i with
 |zero=>simpa[hpOf]using h.1
 |succ i=>simpa[hpOf]using h2 i (by simpa using hi)
theorem Sy{S:St}{l:List Nat}:∀{js qs:List Nat} {ts:List (Nat × Nat)} {bs:List Blk},pO S l js qs ts bs->∀i t,ts[i]?=some t->hpOf bs i=.dead\/∃q,S.m q=.pin t (js.getD i 0)
|_,_,[],_,_,i,t,e=>by simp at e
|[],_,_::_,_,h,_,_,_=>by simp[pO]at h
|_::_,[],_::_,_,h,_,_,_=>by simp[pO]at h
|_::_,_::_,_::_,[],h,_,_,_=>by simp[pO]at h
|j::js,q::qs,t::ts,b::bs,h,0,t',e=>by
 simp only[pO]at h;simp at e;subst e;rcases h.1 with h|h
 ·exact .inl (by simpa[hpOf]using h)
 ·exact .inr ⟨q,by simpa using h⟩
|j::js,q::qs,t::ts,b::bs,h,i+1,t',e=>by
 simp only[pO]at h;have:=Sy h.2 i t' (by simpa using e);simpa[hpOf]using this
theorem I7{bs:List Blk}{i:Nat}(h:i<bs.length):bs[i]?=some (hpOf bs i):=by
 unfold hpOf;rw[aH,aA h];rfl
theorem rW{bs:List Blk}{i:Nat}(h:bs.length<=i):hpOf bs i=.non:=by
 unfold hpOf;rw[aH,aS h];rfl
section
variable {P:Program}
theorem MCall.of_walk {f : FuncId} {fn : Func} {code : Code} {mc : MC} {rs : List MR} {args : List AV} {bs : List Blk} {v : AV} {bs' : List Blk} (hf : P.funcs[f]? = some fn) (hb : fn.body = some code) (hname : (fn.name != "runtime.NumGoroutine") = true)
  (hc:kC P fn.ntmps mc code=true) (hr:nI P rs fn.results.toList=true) (hn:args.length<=fn.ntmps) (hbs:∀i,i<bs.length->hpOf bs i≠.non) (hle:bs.length<=bs'.length) (hnon:∀i,i<bs'.length->hpOf bs' i≠.non)
  (hnew:∀i,bs.length<=i->i<bs'.length->hpOf bs' i≠.dead) (hvl:v.lv (live bs')=true) (hbl:∀b,b∈bs'->b.lv (live bs')=true)
  (h:∀ts:List (Nat × Nat),ts.length=bs.length->AV.okL args->(∀b,b∈bs->b.ok)->∀c:Ctx,c.N=fn.ntmps->c.pure->AW P c mc (xH rs v bs' ts) ⟨su 0 args,hpOf (bs++uQ 0 ts),bs.length+ts.length⟩):MCall P f args bs v bs':=by
 refine⟨by unfold callee;rw[hf];simp only[hb];simpa using hname,hle,hnon,hvl,hbl,λph ρ0 w us H0 hG ra=>?_⟩;have hlen:=ra.len;have some0:∀i,i<bs.length->∃p,ρ0 i=some p:=λi hi=>by
  cases e:ρ0 i with
  |none=>exact absurd ((H0.dom i).2 e) (hbs i hi)
  |some p=>exact⟨p,rfl⟩
 have none0:∀i,bs.length<=i->ρ0 i=none:=λi hi=>(H0.dom i).1 (rW hi);let ts:List (Nat × Nat):=(List.range bs.length).map λi=>(ρ0 i).getD (0,0);have hts:ts.length=bs.length:=by simp[ts]
 have tsget:∀i,i<bs.length->∀p,ρ0 i=some p->ts[i]?=some p:=λi hi p hp=>by
  simp only[ts,List.getElem?_map,List.getElem?_range hi,Option.map_some,hp];rfl
 let ρ1:RM:=λb=>if b<bs.length then ρ0 b else if b<bs.length+bs.length then ρ0 (b-bs.length)else none;have m1a:∀b,b<bs.length->hpOf (bs++uQ 0 ts) b=hpOf bs b:=λb hb=>by
  unfold hpOf;rw[aH,aH,dF hb]
 have m1b:∀j,j<bs.length->∀p,ρ0 j=some p->hpOf (bs++uQ 0 ts) (bs.length+j)=.pin p j:=λj hj p hp=>by
  unfold hpOf;rw[aH,bY (by omega),cZ,Su,tsget j hj p hp];simp
 have m1c:∀b,bs.length+bs.length<=b->hpOf (bs++uQ 0 ts) b=.non:=λb hb=>rW (by rw[aX,Sr,hts];exact hb);have rle:ρ0.le ρ1:=λb p hp=>by
  have:b<bs.length:=by
   rcases aW b bs.length with h|h
   ·exact h
   ·rw[none0 b h]at hp;cases hp
  show(if b<bs.length then _ else _)=_;rw[aC this];exact hp
 have r1:∀b p,ρ1 b=some p->(b<bs.length/\ρ0 b=some p)\/∃j,j<bs.length/\b=bs.length+j/\ρ0 j=some p:=λb p hp=>by
  simp only[ρ1]at hp;split at hp
  ·exact .inl ⟨by assumption,hp⟩
  ·split at hp
   ·exact .inr ⟨b-bs.length,by omega,by omega,hp⟩
   ·cases hp
 have H1:HRel ph ρ1 (hpOf (bs++uQ 0 ts)) w.heap:=by
  refine⟨H0.pers,?_,?_,?_,?_⟩
  ·intro b;by_cases h1:b<bs.length
   ·rw[m1a b h1,H0.dom];show _↔(if b<bs.length then _ else _)=_;rw[aC h1]
   ·by_cases h2:b<bs.length+bs.length
    ·obtain⟨j,rfl⟩:∃j,b=bs.length+j:=⟨b-bs.length,by omega⟩
     obtain⟨p,hp⟩:=some0 j (by omega);rw[m1b j (by omega) p hp];show _↔(if _ then _ else if _ then ρ0 (bs.length+j-bs.length)else _)=_;rw[aB h1,aC h2,cZ,hp];simp
    ·rw[m1c b (by omega)];show _↔(if _ then _ else if _ then _ else _)=_;rw[aB h1,aB h2];simp
  ·intro b p hp;rcases r1 b p hp with⟨h1,h2⟩|⟨j,h1,rfl,h2⟩
   ·rw[m1a b h1];exact zaI.congr (fu ph) rle rfl (H0.own b p h2)
   ·rw[m1b j h1 p h2];exact⟨rfl,rle _ _ h2⟩
  ·intro b c p q hb hc' hrb hrc he;rcases r1 b p hb with⟨h1,h2⟩|⟨j,h1,rfl,h2⟩
   ·rcases r1 c q hc' with⟨h3,h4⟩|⟨k,h3,rfl,h4⟩
    ·rw[m1a b h1]at hrb;rw[m1a c h3]at hrc;exact H0.inj b c p q h2 h4 hrb hrc he
    ·rw[m1b k h3 q h4]at hrc;exact hrc.elim
   ·rw[m1b j h1 p h2]at hrb;exact hrb.elim
  ·intro b p hb hrb;rcases r1 b p hb with⟨h1,h2⟩|⟨j,h1,rfl,h2⟩
   ·rw[m1a b h1]at hrb;exact H0.sep b p h2 hrb
   ·rw[m1b j h1 p h2]at hrb;exact hrb.elim
 let c:Ctx:=⟨ph,ρ0,hpOf bs,w,fn.ntmps⟩
 have hpure:c.pure:=trivial;have hblk:∀b,b∈bs->b.ok:=λb hb=>by
  obtain⟨i,hi,rfl⟩:=bW hb;obtain⟨p,hp⟩:=some0 i hi;have:=(H0.own i p hp).ok;rwa[show hpOf bs i=bs[i] by unfold hpOf;rw[aH,aA hi];rfl]at this
 refine calls_of_wp hf hb (wp_mono (h ts hts ra.ok hblk c rfl hpure code hc _ w ?_) λe a' w' ⟨S',r',q⟩=>?_)
 ·refine⟨hG,rfl,?_,ph,ρ1,H1,⟨fu ph,λB _ _=>rfl,aQ _,λB _ _=>rfl,?_⟩,gD w,λk=>?_⟩
  ·simp[c];omega
  ·intro b p hb hrb;rcases r1 b p hb with⟨h1,h2⟩|⟨j,h1,rfl,h2⟩
   ·have hrb:Real (hpOf (bs++uQ 0 ts) b) p:=hrb;rw[m1a b h1]at hrb;exact .inr ⟨b,p,h2,hrb,rfl⟩
   ·have hrb:Real (hpOf (bs++uQ 0 ts) (bs.length+j)) p:=hrb;rw[m1b j h1 p h2]at hrb;exact hrb.elim
  ·show RepV ph ρ1 (look (su 0 args) k) _;have ra1:zai ph ρ1 args us:=zai.mono (fu ph) rle _ _ ra;have:=Sv 0 ra1 k;simp only[dL,if_true,eP]at this;have e1:(us.toArray++Array.replicate (fn.ntmps-us.toArray.size) undef).getD k undef=us.getD k undef:=by
    rw[aZ,aH,Array.getElem?_append];split
    ·simp
    ·rename_i hh;rw[aS (by simpa using hh)];simp only[dJ];split<;>rfl
   rw[e1];exact this
 ·obtain⟨ph',ρS,H,S0,e0,hg⟩:=r'.ex
  have fin:BV S' rs (λvs=>nK v bs' ts vs S')->∃vC,(results fn a'.tmps).run P w'=.ok vC w'/\∃(vC':Value) (h':PH) (ρ':RM),Ending.returned vC=.returned vC'/\yQ ph ρ0 (hpOf bs) w.heap h' ρ' (hpOf bs') w'.heap/\HRel h' ρ' (hpOf bs') w'.heap/\Same w w'/\RepV h' ρ' v vC'/\
    ∀i,i<bs.length->ρ' i=ρ0 i:=by
   intro hk;obtain⟨vs,⟨l,qs,lnd,kv,kf,kp⟩,F⟩:=Ll hr hk;obtain⟨us',g1,g2⟩:=F (a:=a') H hg;have hres:iA P (results fn a'.tmps) w' (AP us') w':=by
    unfold results;refine fM (a:=us'.toArray) (w':=w') ?_ ?_
    ·rw[dZ];exact g1.map (f:=List.toArray)
    ·cases us' with
     |nil=>exact fK _
     |cons u us'=>
      cases us' with
      |nil=>exact fK _
      |cons u' us'=>exact fK _
   have hrep:RepV ph' ρS (one? vs) (AP us'):=by
    cases vs with
    |nil=>
     simp only[zai]at g2;subst g2;simp only[one?,RepV];exact⟨[],rfl,rfl⟩
    | cons x xs=>
     cases us' with
     |nil=>simp[zai]at g2
     | cons u us'=>
      cases xs with
      |nil=>
       simp only[zai]at g2;rw[g2.2];exact g2.1
      | cons y ys=>
       cases us' with
       |nil=>simp[zai]at g2
       |cons u' us'=>
        simp only[one?,RepV];exact⟨_,rfl,g2⟩
   have hrep:=kv _ _ _ hrep;obtain⟨kl,kf⟩:=Sw kf
   -- which numbers are live
   have lv_:∀i,live bs' i=true↔i<bs'.length/\hpOf bs' i≠.dead:=by
    intro i;unfold live;rcases aW i bs'.length with hi|hi
    ·rw[I7 hi];have:=hnon i hi;cases e:hpOf bs' i<;>simp_all
    ·rw[aS hi];simp;omega
   let ρ2:RM:=λi=>if i<bs.length then ρ0 i else if i<bs'.length then ρS (jJ l i)else none;have mS:∀i,live bs' i=true->S'.m (jJ l i)=(hpOf bs' i).ren (jJ l):=λi hi=>by
    obtain⟨h1,h2⟩:=(lv_ i).1 hi;exact(kf i (by omega)).resolve_left h2
   have rS:∀i,live bs' i=true->ρ2 i=ρS (jJ l i):=λi hi=>by
    obtain⟨h1,h2⟩:=(lv_ i).1 hi;show(if i<bs.length then _ else _)=_;by_cases hib:i<bs.length
    ·rw[aC hib];obtain⟨p,hp⟩:=some0 i hib;obtain⟨q,hq⟩:=(Sy kp i p (tsget i hib p hp)).resolve_left h2;cases e:ρS q with
     |none=>rw[(H.dom q).2 e]at hq;cases hq
     |some t=>
      have:=H.own q t e;rw[hq]at this;rw[hp];exact this.2.symm
    ·rw[aB hib,aC h1]
   have mvH:∀b q,live bs' b=true->ρS (jJ l b)=some q->ρ2 (id b)=some q:=λb q hb hq=>by rw[<-rS b hb]at hq;exact hq
   have linj:∀i j,i<bs'.length->j<bs'.length->jJ l i=jJ l j->i=j:=by
    intro i j h1 h2 e;unfold jJ at e;rw[aH,aH,aA (by omega),aA (by omega)]at e;simp only[Option.getD_some]at e;exact(List.getElem?_inj (by omega) lnd).1 (by rw[aA (by omega),aA (by omega),e])
   have real_:∀b p,ρ2 b=some p->Real (hpOf bs' b) p->live bs' b=true/\b<bs'.length:=λb p hp hr=>by
    have hb:b<bs'.length:=by
     rcases aW b bs'.length with h|h
     ·exact h
     ·rw[rW h]at hr;exact hr.elim
    exact⟨(lv_ b).2 ⟨hb,λe=>by rw[e]at hr;exact hr⟩,hb⟩
   have H2:HRel ph' ρ2 (hpOf bs') w'.heap:=by
    refine⟨H.pers,?_,?_,?_,?_⟩
    ·intro b;by_cases h1:b<bs.length
     ·obtain⟨p,hp⟩:=some0 b h1;show _↔(if b<bs.length then _ else _)=_;rw[aC h1,hp];simp[hnon b (by omega)]
     ·by_cases h2:b<bs'.length
      ·have hl:=(lv_ b).2 ⟨h2,hnew b (by omega) h2⟩;rw[rS b hl,<-H.dom,mS b hl];cases hpOf bs' b<;>simp[Blk.ren]
      ·rw[rW (by omega)];show _↔(if _ then _ else if _ then _ else _)=_;rw[aB h1,aB h2];simp
    ·intro b p hp;by_cases hd:hpOf bs' b=.dead
     ·rw[hd];trivial
     ·have hb:b<bs'.length:=by
       rcases aW b bs'.length with h|h
       ·exact h
       ·have h1:¬b<bs.length:=by omega
        simp only[ρ2]at hp;rw[aB h1,aB (by omega)]at hp;cases hp
      have hl:=(lv_ b).2 ⟨hb,hd⟩;rw[rS b hl]at hp;have:=H.own _ p hp;rw[mS b hl]at this;have h3:=zaI.mv (f2:=id) mvH (hbl _ (ae (I7 hb))) this;rwa[Blk.ren_id]at h3
    ·intro b c' p q hb hc' hrb hrc he;obtain⟨l1,b1⟩:=real_ b p hb hrb;obtain⟨l2,b2⟩:=real_ c' q hc' hrc;rw[rS b l1]at hb;rw[rS c' l2]at hc';exact linj b c' b1 b2 (H.inj _ _ p q hb hc' (by rw[mS b l1];exact Real.ren.2 hrb) (by rw[mS c' l2];exact Real.ren.2 hrc) he)
    ·intro b p hb hrb;obtain⟨l1,b1⟩:=real_ b p hb hrb;rw[rS b l1]at hb;exact H.sep _ p hb (by rw[mS b l1];exact Real.ren.2 hrb)
   refine⟨_,hres,_,ph',ρ2,rfl,⟨S0.hle,S0.hlow,S0.size,S0.frame,?_⟩,H2,e0,?_,?_⟩
   ·intro b p hb hrb;obtain⟨l1,b1⟩:=real_ b p hb hrb;rw[rS b l1]at hb;exact S0.own _ p hb (by rw[mS b l1];exact Real.ren.2 hrb)
   ·have:=RepV.mv (f2:=id) mvH v _ hvl hrep;rwa[AV.ren_id]at this
   ·intro i hi;show(if i<bs.length then _ else _)=_;rw[aC hi]
  cases e with
  |normal=>exact⟨r'.defers,fin q⟩
  |ret=>exact⟨r'.defers,fin q⟩
  |exit _=>exact q.elim
  |goto _=>exact q.elim
  |panic _=>exact q.elim
  |outgrown=>exact q.elim
end
abbrev fQ:=@nK.mkD
abbrev fT:=@nK.mk
end Go.Abs
namespace Go.Abs
def zM(P:Program)(f:FuncId)(vs:List AV)(m:Hp)(n:Nat)(K:AV->List Nat->List (Nat × Blk)->Nat->Prop)(_:Tag K):Prop:=C9 P f vs m n K
theorem zM.mk{P:Program}{f:FuncId}{vs:List AV}{m:Hp}{n:Nat}{K:AV->List Nat->List (Nat × Blk)->Nat->Prop}{g:Tag K}(l:List Nat){args:List AV}{bs:List Blk}{v:AV}{bs':List Blk}(h:MCall P f args bs v bs')
 (hs:l.Nodup/\(∀i,i∈l->i<n)/\vs=AV.rens (jJ l) args/\AV.lts l.length args=true/\(∀b,b∈bs->b.lt l.length=true)/\vL m (jJ l) l bs/\CZ m n (bs'.length-bs.length))
 (k:K (v.ren (jJ (l++jN n (bs'.length-bs.length)))) [] (uJ (jJ (l++jN n (bs'.length-bs.length))) (l++jN n (bs'.length-bs.length)) bs') (n+(bs'.length-bs.length))):zM P f vs m n K g:=
⟨l,args,bs,v,bs',h,hs.1,hs.2.1,hs.2.2.1,hs.2.2.2.1,hs.2.2.2.2.1,hs.2.2.2.2.2.1,hs.2.2.2.2.2.2,k⟩
theorem zM.mK{P:Program}{f:FuncId}{vs:List AV}{m:Hp}{n:Nat}{K:AV->List Nat->List (Nat × Blk)->Nat->Prop}{g:Tag K}(l:List Nat){args:List AV}{bs:List Blk}{v:AV}{bs':List Blk}(h:MCall P f args bs v bs')(k:K (v.ren (jJ (l++jN n (bs'.length-bs.length)))) [] (uJ (jJ (l++jN n (bs'.length-bs.length))) (l++jN n (bs'.length-bs.length)) bs') (n+(bs'.length-bs.length)))
 (hs:l.Nodup/\(∀i,i∈l->i<n)/\vs=AV.rens (jJ l) args/\AV.lts l.length args=true/\(∀b,b∈bs->b.lt l.length=true)/\vL m (jJ l) l bs/\CZ m n (bs'.length-bs.length):=by simp):zM P f vs m n K g:=zM.mk l h hs k
section
variable {P:Program} {get:Nat->AV} {m:Hp} {n:Nat} {K:AV->List Nat->List (Nat × Blk)->Nat->Prop}
@[simp] theorem zJ1(f:FuncId)(xs:List MX){g}:eV P K (.callM f xs) g get m n=zM P f (xs.map (X get)) m n K ⟨⟩:=(aR _).trans rfl
@[simp] theorem zJP(x:MX)(xs:List MX){g}:eV P K (.calldM x xs) g get m n=(match X get x with
 |.c (.fn (.func f) caps)=>zM P f (xs.map (X get)++caps.map .c) m n K ⟨⟩
 |.c (.d (.fn (.func f) caps))=>zM P f (xs.map (X get)++caps.map λc=>.c (.d c)) m n K ⟨⟩
 |_=>False):=(aR _).trans rfl
end
def Blk.tag:Blk->Nat
|.non=>0
|.dead=>1
|_=>2
attribute [simp] Blk.tag
def sO(args:List AV)(N:Nat)(bs:List Blk)(v:AV)(bs':List Blk):Prop:=
 args.length<=N/\(bs.all λb=>b.tag !=0)=true/\bs.length<=bs'.length/\(bs'.all λb=>b.tag !=0)=true/\((bs'.drop bs.length).all λb=>b.tag==2)=true/\v.lv (live bs')=true/\(bs'.all λb=>b.lv (live bs'))=true
theorem nE{args:List AV}{N:Nat}{bs:List Blk}{v:AV}{bs':List Blk}(h:sO args N bs v bs':=by exact⟨by simp,by simp,by simp,by simp,by simp,by simp,by simp⟩):sO args N bs v bs':=h
theorem mD{args:List AV}{N:Nat}{bs:List Blk}{v:AV}{bs':List Blk}(h:sO args N bs v bs':=by exact⟨by simp,by simp,by simp,by simp,by simp,by simp,by simp[live]⟩):sO args N bs v bs':=h
theorem Ba{bs:List Blk}(h:(bs.all λb=>b.tag !=0)=true)(i:Nat)(hi:i<bs.length):hpOf bs i≠.non:=by
 intro e;have:=ah.1 h _ (ae (I7 hi));rw[e]at this;simp at this
theorem zmy{bs:List Blk}{k:Nat}(h:((bs.drop k).all λb=>b.tag==2)=true)(i:Nat)(hk:k<=i)(hi:i<bs.length):hpOf bs i≠.dead:=by
 intro e;have hm:hpOf bs i∈bs.drop k:=by
  refine ae (i:=i-k) ?_;rw[ay,show k+(i-k)=i by omega];exact I7 hi
 have:=ah.1 h _ hm;rw[e]at this;simp at this
theorem MCall.of_walk' {P : Program} {f : FuncId} {fn : Func} {code : Code} {mc : MC} {rs : List MR} {args : List AV} {bs : List Blk} {v : AV} {bs' : List Blk} (hf : P.funcs[f]? = some fn) (hb : fn.body = some code) (hname : (fn.name != "runtime.NumGoroutine") = true)
  (hc:kC P fn.ntmps mc code=true) (hr:nI P rs fn.results.toList=true) (hm:P.follows .mixedOrders=true) (hs:sO args fn.ntmps bs v bs')
  (h:∀ts:List (Nat × Nat),ts.length=bs.length->AV.okL args->(∀b,b∈bs->b.ok)->∀c:Ctx,c.N=fn.ntmps->c.pure->w_ P c mc (xH rs v bs' ts) ⟨⟩ ⟨su 0 args,hpOf (bs++uQ 0 ts),bs.length+ts.length⟩):MCall P f args bs v bs':=
 MCall.of_walk hf hb hname hc hr hs.1 (Ba hs.2.1) hs.2.2.1 (Ba hs.2.2.2.1) (zmy hs.2.2.2.2.1) hs.2.2.2.2.2.1 (λb hb=>ah.1 hs.2.2.2.2.2.2 b hb) λts h1 h2 h3 c h4 h5=>W.aw hm (Si (h ts h1 h2 h3 c h4 h5))
abbrev gU:=@zM.mK
abbrev gY:=@zM.mk
end Go.Abs
namespace Go.Abs
theorem MCall.frz{P:Program}{f:FuncId}{args:List AV}{bs:List Blk}{ds:List DV}{d:D}(hp:gu P f ds (.one d))(hd:∀(h h':PH) (v:Value),RepD h d v->RepD h' d v)(e:zL (hpOf bs) args=some ds)
  (h1:∀i,i<bs.length->hpOf bs i≠.non) (h2:(bs.all λb=>b.lv (live bs))=true):MCall P f args bs (.c (.d d)) bs:=by
 refine⟨hp.1,aQ _,h1,rfl,λb hb=>ah.1 h2 b hb,λh ρ w argsC H hG r=>?_⟩;have k:=I1 (n:=0) H (λ_ _ _ _=>dL _) args ds argsC e r;refine(hp.2 (uL h 0 w.heap) w argsC (Lj H) (hG.mono (FD H)) k).mono λe w' hh=>?_;obtain⟨vC,h',e1,e2,e3,e4,e5,e6,e7,e8⟩:=hh;have hx:∀B,B<w.heap.size->w'.heap[B]?=w.heap[B]?:=e6;have hP:∀B o,h B=some o->w'.heap[B]?=some o:=λB o he=>by
  rw[e6 B (H.lt he)];exact H.pers B o he
 refine⟨vC,h,ρ,e1,⟨λ_ _ he=>he,λB hB _=>rfl,e5,λB hB _=>e6 B hB,λb p hp hr=>.inr ⟨b,p,hp,hr,rfl⟩⟩,H.grow (λ_ _ he=>he) hP (λB hB _=>⟨e6 B hB,rfl⟩),e7,?_,λ_ _=>rfl⟩;simp only[kR]at e8;simp only[RepV,RepC];exact hd _ _ _ e8
theorem MCall.frzB{P:Program}{f:FuncId}{args:List AV}{bs:List Blk}{ds:List DV}{t:Bool}(hp:gu P f ds (.one (.bool t)))(e:zL (hpOf bs) args=some ds)
  (h1:(bs.all λb=>b.tag !=0)=true) (h2:(bs.all λb=>b.lv (live bs))=true):MCall P f args bs (.c (.d (.bool t))) bs:=
 MCall.frz hp (λh h' v r=>by simpa[RepD]using r) e (Ba h1) h2
theorem MCall.frzI{P:Program}{f:FuncId}{args:List AV}{bs:List Blk}{ds:List DV}{k:IntKind}{i:Int}(hp:gu P f ds (.one (.int k i)))(e:zL (hpOf bs) args=some ds)
  (h1:(bs.all λb=>b.tag !=0)=true) (h2:(bs.all λb=>b.lv (live bs))=true):MCall P f args bs (.c (.d (.int k i))) bs:=
 MCall.frz hp (λh h' v r=>by simpa[RepD]using r) e (Ba h1) h2
mutual
def D.erd:D->D
|.sl _ s es=>.sl false s (D.erdE es)
|.any=>.any
|.int k n=>.int k n
|.bool b=>.bool b
|.str s=>.str s
|.sc v=>.sc v
|.rp cs o=>.rp (D.erdL cs) o
|.fn f c=>.fn f c
|.ifc t a c=>.ifc t a c
def D.erdL:List D->List D
|[]=>[]
|d::ds=>d.erd::D.erdL ds
def D.erdE:List (List D)->List (List D)
|[]=>[]
|e::es=>D.erdL e::D.erdE es
end
theorem D.erdL_length:∀ds:List D,(D.erdL ds).length=ds.length
|[]=>rfl
|d::ds=>by simp[D.erdL,D.erdL_length ds]
theorem D.erdE_length:∀es:List (List D),(D.erdE es).length=es.length
|[]=>rfl
|d::ds=>by simp[D.erdE,D.erdE_length ds]
mutual
theorem RepD.erd{h:PH}:∀(d:D) (v:Value),RepD h d v->RepD h d.erd v
|.sl x s es,v,r=>by
 simp only[D.erd];simp only[RepD]at r⊢;obtain⟨a,cap,r1,r2,r3,r4,r5,r6,r7⟩:=r;refine⟨a,cap,by rw[r1,D.erdE_length],by rw[D.erdE_length];exact r2,(λh=>by cases h),by rw[D.erdE_length];exact r4,(λha=>⟨?_,(r5 ha).2⟩),r6,RepE.erd s es _ r7⟩;rw[(r5 ha).1];rfl
|.any,v,r=>by simp only[D.erd];exact r
|.int k n,v,r=>by simp only[D.erd];exact r
|.bool b,v,r=>by simp only[D.erd];exact r
|.str s,v,r=>by simp only[D.erd];exact r
|.sc u,v,r=>by simp only[D.erd];exact r
|.rp cs o,v,r=>by
 simp only[D.erd];simp only[RepD]at r⊢;obtain⟨B,o',e1,e2⟩:=r;exact⟨B,o',e1,RepL.erd _ _ e2⟩
|.fn f c,v,r=>by simp only[D.erd];exact r
|.ifc t a c,v,r=>by simp only[D.erd];exact r
theorem RepL.erd{h:PH}:∀(ds:List D) (vs:List Value),RepL h ds vs->RepL h (D.erdL ds) vs
|[],vs,r=>by simp[D.erdL,RepL]
|_::_,[],r=>by simp[RepL]at r
|d::ds,v::vs,r=>by
 simp only[RepL]at r;simp only[D.erdL,RepL];exact⟨⟨r.1.1,RepD.erd d v r.1.2⟩,RepL.erd ds vs r.2⟩
theorem RepE.erd{h:PH}(s:Nat):∀(es:List (List D)) (vs:List Value),RepE h s es vs->RepE h s (D.erdE es) vs
|[],vs,r=>by simp[D.erdE,RepE]
|e::es,vs,r=>by
 simp only[RepE]at r;simp only[D.erdE,RepE];exact⟨by rw[D.erdL_length];exact r.1,RepL.erd e vs r.2.1,RepE.erd s es _ r.2.2⟩
end
mutual
def DV.erd:DV->DV
|.one x=>.one x.erd
|.agg cs=>.agg (D.erdL cs)
|.tup vs=>.tup (DV.erds vs)
def DV.erds:List DV->List DV
|[]=>[]
|v::vs=>v.erd::DV.erds vs
end
mutual
theorem kR.erd{h:PH}:∀{d:DV} {v:Value},kR h d v->kR h d.erd v
|.one x,v,r=>by simp only[kR,DV.erd]at r⊢;exact RepD.erd _ _ r
|.agg cs,v,r=>by
 simp only[kR,DV.erd]at r⊢;obtain⟨vs,r1,r2,r3⟩:=r;exact⟨vs,r1,by rw[r2,D.erdL_length],RepL.erd _ _ r3⟩
|.tup xs,v,r=>by
 simp only[kR,DV.erd]at r⊢;obtain⟨vs,r1,r2⟩:=r;exact⟨vs,r1,ji.erds r2⟩
theorem ji.erds{h:PH}:∀{ds:List DV} {vs:List Value},ji h ds vs->ji h (DV.erds ds) vs
|[],_,r=>by simpa[ji,DV.erds]using r
|_::_,[],r=>by simp[ji]at r
|d::ds,v::vs,r=>by
 simp only[ji]at r;simp only[DV.erds,ji];exact⟨kR.erd r.1,ji.erds r.2⟩
end
theorem gu.erd{P:Program}{f:FuncId}{args args':List DV}{v:DV}(h:gu P f args' v)(e:DV.erds args=args'):gu P f args v:=by
 subst e;exact⟨h.1,λph w us hp hG r=>h.2 ph w us hp hG (ji.erds r)⟩
theorem law_liftedX{C:Checked}{os:Os}{f:FuncId}{fn:Func}{s:ChangeSpec}{conds:List PathCond}{S:List TypeId}{rt:TypeId}{H:Type}{enc:TypeId × Value->H}{X:World->Prop}(hX:∀(w w':World),w.heap=w'.heap->X w->X w')(hG:∀w:World,X w->yR C.prog λB=>w.heap[B]?)
  (own:ownKnob C.prog.godebug=none) (started:os.Started) (noInit:C.prog.inits.idxOf? f=none) (hfn:C.prog.funcs[f]?=some fn) (hvars:s.vars=[])
  (hS:(S.all λt=>nJ C.prog S t&&C.prog.readableRec t&&decide (t<C.prog.types.size))=true) (hp:(fn.params.toList.all λt=>S.contains t)=true)
  (hres:fn.resultTypes=#[rt]) (hrt:C.prog.underlying rt=some .bool) (hl:laidOutB C.prog=true)
  (hspec:∀(ds:List (DataW H)),ds.length=fn.params.size->s.fn H ds={results:=[.lit (.bool true)],args:=ds})
  (witness:∃(w:World) (tape:Tape) (i:Input),w.os=os/\(w.forCall tape i).Shaped C.prog/\i.vars=[]/\Input.okWide C.prog (w.forCall tape i) .any w.heap.size f i/\
   ((s.pre enc C.prog fn conds false (w.forCall tape i).memory i.args/\X (w.forCall tape i).memory)/\sizedMet enc C.prog fn (OpenSpec.ofChange s) false (w.forCall tape i).memory i.args)/\({}:Assume).holds C.prog (lone (Frame.enter C.prog f i.args .normal) [] (w.forCall tape i)))
  (hc:∀dvs,EJ C.prog fn.params.toList dvs->gu C.prog f dvs (.one (.bool true))):
  ReturnsInHanded {} C os f .any (λw args=>(s.pre enc C.prog fn conds false w args/\X w)/\sizedMet enc C.prog fn (OpenSpec.ofChange s) false w args) (s.post enc C.prog fn false true false false):=by
 refine returnsInHanded_of_change_and (X:=λw _=>X w) (λw w' _ hh h=>hX w w' hh h) own started noInit hfn witness ?_;intro W base args ds gs before hval hW _ hwt hXW _;simp only[ah,aG,aI,dR]at hS hp;have hW':=hW;obtain⟨p,q,hA,hV,hpq,hfz,hnd⟩:=hW;rw[hvars]at hV;have hgs:gs=[]/\q=[]:=by
  cases gs with
  |nil=>exact⟨rfl,hV⟩
  |cons g gs=>exact hV.elim
 obtain⟨rfl,rfl⟩:=hgs;simp only[bN]at hpq;subst hpq;have hpv:s.plain.varTypes C.prog=[]:=by unfold ChangeSpec.plain DataSpec.varTypes;rw[hvars];rfl
 simp only[hpv,bN,ah,aI]at hwt;have hlen:∀{ts:List TypeId} {vs:List Value} {ds:List (DataW H)} {ps:List MemPlace},DataW.TrodAll enc C.prog W 0 (λ_=>true) true ts vs ds ps->ds.length=ts.length:=by
  intro ts
  induction ts with
  |nil=>intro vs ds ps h;cases vs<;>cases ds<;>first|rfl|exact h.elim
  |cons t ts ih=>
   intro vs ds ps h;cases vs<;>cases ds<;>first|exact h.elim|skip
   obtain⟨_,_,_,h2,_⟩:=h;simp[ih h2]
 obtain⟨dvs,d1,d2⟩:=Sl (λt ht=>(hS t ht).1.1) hp (λj t v ht hv=>hval j t v (by simpa using ht) (by simpa using hv)) hA hwt;have hcall:=(hc dvs d1).2 (λB=>W.heap[B]?) W args.toList (λB o h=>h) (hG W hXW) d2;refine(show Calls C.prog f args.toList.toArray W _ from hcall).mono λe W' he=>?_;obtain⟨vC,h',rfl,_,_,_,hsz,hold,⟨so,st,sp⟩,rv⟩:=he;simp only[kR,RepD]at rv;subst rv;have hb:Go.RowKit.Below W.heap.size W W':=⟨so,st,sp,hsz,hold⟩
 have hsp:=hspec ds (by simpa using hlen hA);refine⟨_,rfl,ds,[],before,[],before,[],hW',?_,?_,?_,hb.frame _,λh=>by cases h⟩
 ·rw[bN,hsp,hres];refine⟨[],[],⟨1,?_⟩,rfl,rfl⟩;unfold DataW.trod;rw[hrt];rfl
 ·rw[bN,hsp];exact Sm hl hb (λt ht=>⟨(hS t (hp t ht)).1.2,(hS t (hp t ht)).2⟩) hA (λx hx=>hW'.lt x hx)
 ·rw[bN,hsp,hvars];rfl
def AC.erd:AC->AC
|.d x=>.d x.erd
|c=>c
mutual
def AV.erd:AV->AV
|.c x=>.c x.erd
|.ag cs=>.ag (cs.map AC.erd)
|.tup vs=>.tup (AV.erds vs)
def AV.erds:List AV->List AV
|[]=>[]
|v::vs=>AV.erd v::AV.erds vs
end
theorem RepC.erd{h:PH}{ρ:RM}:∀{x:AC} {v:Value},RepC h ρ x v->RepC h ρ x.erd v
|.d x,v,r=>by simp only[RepC,AC.erd]at r⊢;exact RepD.erd _ _ r
|.ptr _ _,_,r=>r
|.ept _ _ _ _,_,r=>r
|.msl _ _ _ _,_,r=>r
|.map _,_,r=>r
|.fn _ _,_,r=>r
|.op _,_,r=>r
theorem iJ.erd{h:PH}{ρ:RM}:∀{cs:List AC} {vs:List Value},iJ h ρ cs vs->iJ h ρ (cs.map AC.erd) vs
|[],vs,r=>by simp[iJ]
|_::_,[],r=>by simp[iJ]at r
|c::cs,v::vs,r=>by
 simp only[iJ,List.map_cons]at r⊢;exact⟨⟨r.1.1,RepC.erd r.1.2⟩,iJ.erd r.2⟩
mutual
theorem RepV.erd{h:PH}{ρ:RM}:∀{x:AV} {v:Value},RepV h ρ x v->RepV h ρ x.erd v
|.c x,v,r=>by simp only[RepV,AV.erd]at r⊢;exact RepC.erd r
|.ag cs,v,r=>by
 simp only[RepV,AV.erd]at r⊢;obtain⟨vs,h1,h2,h3⟩:=r;exact⟨vs,h1,by simpa using h2,iJ.erd h3⟩
|.tup xs,v,r=>by
 simp only[RepV,AV.erd]at r⊢;obtain⟨vs,h1,h2⟩:=r;exact⟨vs,h1,zai.erds h2⟩
theorem zai.erds{h:PH}{ρ:RM}:∀{xs:List AV} {vs:List Value},zai h ρ xs vs->zai h ρ (AV.erds xs) vs
|[],vs,r=>by simpa[zai,AV.erds]using r
|_::_,[],r=>by simp[zai]at r
|x::xs,v::vs,r=>by
 simp only[zai,AV.erds]at r⊢;exact⟨RepV.erd r.1,zai.erds r.2⟩
end
theorem nK.mkE{v:AV}{bs':List Blk}{ts:List (Nat × Nat)}{vs:List AV}{S:St}(l qs:List Nat)(h:l.Nodup/\(one? vs).erd=v.ren (jJ l)/\qg S l l bs'/\pO S l l qs ts bs'):nK v bs' ts vs S:=
⟨l,qs,h.1,(λ_ _ _ r=>h.2.1▸RepV.erd r),h.2.2⟩
abbrev fO:=@nK.mkE
def bs(l:List Nat):fI:=⟨(l.map UInt8.ofNat).toArray⟩
inductive TY where
|i (k:IntKind)|s|b|o (x:D) (n:Nat)|l (e:Nat)|r (z y:Nat) (f:List Nat)|a (z n e:Nat)|m (k e:Nat)
def gJ{α:Type}:List α->List α->List α
|[],r=>r
|x::l,r=>x::gJ l r
def I8{α:Type}(x:α):List α->Nat->α
|[],_=>x
|y::_,0=>y
|_::l,n+1=>I8 x l n
def Ls(f:Nat->List D):List Nat->List D
|[]=>[]
|x::l=>gJ (f x) (Ls f l)
def uC:TY->Nat
|.r z _ _=>z
|.a z _ _=>z
|_=>1
def FH:TY->Bool
|.r _ _ _=>true
|.a _ _ _=>true
|_=>false
def I9:TY->Nat
|.i .u8=>1
|.i _=>8
|.s=>16
|.b=>1
|.o _ n=>n
|.l _=>24
|.r _ y _=>y
|_=>8
section
variable (T:Nat->TY)
def Sz:TY->Nat
|.l e=>uC (T e)
|_=>0
def Ck:Nat->List D->List D
|0,_=>[]
|n+1,l=>gJ l (Ck n l)
def gZ:Nat->TY->List D
|_,.i k=>[.int k 0]
|_,.s=>[.str (bs [])]
|_,.b=>[.bool false]
|_,.o x _=>[x]
|_,.l e=>[.sl true (uC (T e)) []]
|n+1,.r _ _ f=>Ls (λt=>gZ n (T t)) f
|n+1,.a _ k e=>Ck k (gZ n (T e))
|_,_=>[.sc (.map none)]
def Lt:List UInt8->List Nat
|[]=>[]
|c::l=>c.toNat::Lt l
def gV(t:TY):Value->D
|.bool b=>.bool b
|.int k n=>.int k n
|.string ⟨⟨l⟩⟩=>.str (bs (Lt l))
|.pointer _=>.sc (.pointer none)
|.nilFunc=>.sc .nilFunc
|.nilIface=>.sc .nilIface
|.map _=>.sc (.map none)
|.slice _ _ _=>.sl true (Sz T t) []
|_=>.any
def gX(t:TY):Operand->MX
|.tmp k=>.t k
|.func f=>.k (.fn (.func f) [])
|.const v=>.k (gV T t v)
|_=>.k .any
def Bb:List Operand->List Nat->List MX
|x::l,t::ts=>gX T (T t) x::Bb l ts
|x::l,[]=>gX T .s x::Bb l []
|[],_=>[]
def gO:Option Operand->Option MX
|none=>none
|some x=>some (gX T .s x)
def gH(k d:Nat):List (Nat × Nat)->Bool
|[]=>false
|x::l=>match x.1==k,x.2==d with
 |true,true=>true
 |_,_=>gH k d l
def EK:TY->Nat
|.s=>1
|.b=>2
|_=>0
def FI:Nat->List Nat->Nat × Nat
|0,t::_=>(0,t)
|n+1,t::l=>match FI n l with|(o,u)=>(uC (T t)+o,u)
|_,[]=>(0,0)
def Lu:List Nat->List (Nat × Operand)->List (Nat × Nat × MX)
|_,[]=>[]
|f,(i,x)::l=>match FI T i f with|(o,u)=>(o,uC (T u),gX T (T u) x)::Lu f l
def gEs(e:Nat):List (Nat × Operand)->List (Nat × Nat × MX)
|[]=>[]
|(i,x)::l=>(i*uC (T e),uC (T e),gX T (T e) x)::gEs e l
def Ia(e:Nat):List (Nat × Operand)->List MX
|[]=>[]
|(_,x)::l=>gX T (T e) x::Ia e l
def Lv:List Nat->List Nat
|[]=>[]
|t::l=>EK (T t)::Lv l
def mW:xD:=.mv (.k .any)
def FJ(op:BinOp)(x y:Operand):TY->xD
|.s=>match op with
 |.add=>.cat (gX T .s x) (gX T .s y)
 |_=>.binS op (gX T .s x) (gX T .s y)
|.b=>.binB op (gX T .s x) (gX T .s y)
|.i _=>match op with
 |.quo=>.divI op (gX T .s x) (gX T .s y)
 |.rem=>.divI op (gX T .s x) (gX T .s y)
 |_=>.binI op (gX T .s x) (gX T .s y)
|.r _ _ f=>.eqAg (match op with|.neq=>true|_=>false) (Lv T f) (gX T .s x) (gX T .s y)
|.l _=>.isNil (match op with|.neq=>true|_=>false) (gX T .s x)
|.o _ _=>.isNilP (match op with|.neq=>true|_=>false) (gX T .s x)
|_=>mW
def TA(E:List (Nat × Nat))(d:Nat):Callee->List Operand->List Nat->xD
| .value (.func f),xs,ts=>match gH 8 f E,xs with
 |true,[x,y]=>.cmpS f (gX T .s x) (gX T .s y)
 |_,_=>match gH 3 d E,gH 9 f E with
  |false,false=>.call f (Bb T xs ts)
  |_,_=>.callM f (Bb T xs ts)
|.value f,xs,_=>match gH 2 d E with
 |true=>.calldM (gX T .s f) (Bb T xs [])
 |false=>.calld (gX T .s f) (Bb T xs [])
|.builtin .len,[x],[t]=>match T t with
 |.s=>.lenS (gX T .s x)
 |.m _ _=>.mlen (gX T .s x)
 |_=>.len (gX T .s x)
|.builtin .append,[x,y],[t,u]=>match T t with
 |.l e=>.append (uC (T e)) (I9 (T e)) (gX T (.l e) x) (gX T (T u) y)
 |_=>mW
|.builtin .delete,x::y::_,t::_=>match T t with
 |.m k _=>.mdel (EK (T k)) (gX T .s x) (gX T .s y)
 |_=>mW
|.builtin .min,[x,y],_=>.minI false (gX T .s x) (gX T .s y)
|.builtin .max,[x,y],_=>.minI true (gX T .s x) (gX T .s y)
|_,_,_=>mW
def TB(E:List (Nat × Nat))(d ty:Nat):Go.Op->xD
|.move x=>.mv (gX T (T ty) x)
|.assign x=>.mv (gX T (T ty) x)
|.pick c a b=>.pick (gX T .s c) (gX T (T ty) a) (gX T (T ty) b)
|.alloc t=>.alloc (gZ T 9 (T t))
|.box t v=>match gH 0 d E with
 |true=>.boxM (gX T (T t) v)
 |false=>.boxP (gX T (T t) v)
|.build t ⟨ps⟩=>match T t with
 |.r z y f=>.build (gZ T 9 (.r z y f)) (Lu T f ps)
 |.a z n e=>.build (gZ T 9 (.a z n e)) (gEs T e ps)
 |_=>mW
|.buildSlice t _ ⟨ps⟩=>match T t,gH 1 d E with
 |.l e,true=>.buildSlM (uC (T e)) (Ia T e ps)
 |.l e,false=>.buildSl (uC (T e)) (Ia T e ps)
 |_,_=>mW
|.load t x=>.load (FH (T t)) (uC (T t)) (gX T .s x)
|.store t x v=>.store (uC (T t)) (gX T .s x) (gX T (T t) v)
|.nilCheck x=>.nilck (gX T .s x)
|.binOp op t x y _=>FJ T op x y (T t)
|.unOp op _ x=>match op with
 |.not=>.not (gX T .s x)
 |_=>.neg (gX T .s x)
|.convert _ t x=>match T t with
 |.i k=>.convI k (gX T .s x)
 |_=>mW
|.slice t x l h m=>match T t,m with
 |.s,_=>.sliceS (gX T .s x) (gO T l) (gO T h)
 |.l e,none=>.slice (uC (T e)) (gX T (.l e) x) (gO T l) (gO T h)
 |.l e,some _=>.slice00 (uC (T e)) (gX T (.l e) x)
 |_,_=>mW
|.fieldAddr t x i=>match T t with
 |.r _ _ f=>match FI T i f with|(o,_)=>.faddr o (gX T .s x)
 |_=>mW
|.field t x i=>match T t with
 |.r _ _ f=>match FI T i f with|(o,u)=>.field (FH (T u)) o (uC (T u)) (gX T .s x)
 |_=>mW
|.indexAddr t x i=>match T t with
 |.a _ n e=>.iaddrA n (uC (T e)) (gX T .s x) (gX T .s i)
 |.l e=>.iaddrS (uC (T e)) (gX T .s x) (gX T .s i)
 |_=>mW
|.index t x i=>match T t with
 |.s=>.idxS (gX T .s x) (gX T .s i)
 |.a _ n e=>.idxA (FH (T e)) n (uC (T e)) (gX T .s x) (gX T .s i)
 |_=>mW
|.makeFunc (.func g) _ ⟨xs⟩=>.mkfn g (Bb T xs [])
|.extract t i=>.extract (gX T .s t) i
|.call ⟨c,⟨xs⟩,⟨ts⟩⟩=>TA T E d c xs ts
|.makeMap _ _=>.mkmap
|.mapUpdate t x k v=>match T t with
 |.m a e=>.mset (EK (T a)) (gX T .s x) (gX T .s k) (gX T (T e) v)
 |_=>mW
|.insert t x k v=>match T t with
 |.m a e=>.mset (EK (T a)) (gX T .s x) (gX T .s k) (gX T (T e) v)
 |_=>mW
|.lookup t x k ok=>match T t with
 |.m a e=>.mlook (EK (T a)) ok (FH (T e)) (gZ T 9 (T e)) (gX T .s x) (gX T .s k)
 |_=>mW
|.makeSlice t l c=>match T t,gH 1 d E with
 |.l e,true=>.mkslM (gZ T 9 (T e)) (I9 (T e)) (gX T .s l) (gX T .s c)
 |.l e,false=>.mksl (gZ T 9 (T e)) (I9 (T e)) (gX T .s l)
 |_,_=>mW
|_=>mW
def Lx:Nat->List Oper->Nat
|0,o::_=>o.dst.getD 0
|n+1,_::l=>Lx n l
|_,[]=>0
def Ib(E:List (Nat × Nat))(all:List Oper):List Oper->List MO
|[]=>[]
|⟨d,op,ty,_,_,g⟩::l=>⟨match g with|none=>none|some (j,b)=>some (Lx j all,b),d,TB T E (d.getD 10000) ty op⟩::Ib E all l
def AU(k:Nat)(E:List (Nat × Nat)):List Oper->Bool
|[]=>false
|o::l=>match gH k (o.dst.getD 10000) E with
 |true=>true
 |false=>AU k E l
def gW(x:Bool)(f:MC->MC)(c:MC):MC:=match x with
|true=>f c
|false=>c
def gL{α:Type}(x:α):List (Nat × α)->Nat->α
|[],_=>x
|(i,y)::l,k=>match i==k with
 |true=>y
 |false=>gL x l k
def gC(E:List (Nat × Nat))(B:List (Nat × List Nat))(L:List (Nat × MC)):Code->MC
|.skip=>.skip
|.block i (.loop _)=>gW (gH 6 i E) .owq (.block i (.loop (gL .skip L i)))
|.region i ⟨os⟩ d=>gW (AU 5 E os) .owq (gW (AU 4 E os) .fzq (match d with
 |true=>.regd (gL [] B i) (Ib T E os os)
 |false=>.reg (Ib T E os os)))
|.seq a b=>.seq (gC E B L a) (gC E B L b)
|.cond c a b=>.cond (gX T .s c) (gC E B L a) (gC E B L b)
|.block i b=>.block i (gC E B L b)
|.loop b=>.loop (gC E B L b)
|.exit i=>.exit i
|.ret=>gW (gH 7 1 E) .fzq (gW (gH 7 0 E) .owq .ret)
|_=>.skip
end
def AX(i:Nat):Code->Option Code
|.seq a b=>match AX i a with
 |some c=>some c
 |none=>AX i b
|.cond _ a b=>match AX i a with
 |some c=>some c
 |none=>AX i b
|.block k (.loop b)=>match k==i with
 |true=>some b
 |false=>AX i b
|.block _ b=>AX i b
|.loop b=>AX i b
|_=>none
def iO(i:Nat)(c:Code):Code:=match AX i c with
|some b=>b
|none=>.skip
def gB(f:Func):Code:=match f.body with
|some c=>c
|none=>.skip
def nf(a:MC){x:MC}(h:x=a):MC:=x
def Ic (P : Program) (fn : Func) (N : Nat) (c : MC) (rs : List MR) : Bool := (decide (fn.ntmps = N) && (fn.name != "runtime.NumGoroutine")) && ((match fn.body with
|some b=>kC P N c b
|none=>false)&&nI P rs fn.results.toList)
abbrev WT(P:Program)(f:FuncId)(N:Nat)(c:MC)(rs:List MR):Prop:=∀{args:List DV} {v:DV},args.length<=N->(DV.okL args->∀x:Ctx,x.N=N->x.pure->w_ P x c (Ch rs v) ⟨⟩ ⟨uM 0 args,λ_=>.non,0⟩)->gu P f args v
abbrev WM(P:Program)(f:FuncId)(N:Nat)(c:MC)(rs:List MR):Prop:=∀{args:List AV} {bs:List Blk} {v:AV} {bs':List Blk},sO args N bs v bs'->(∀ts:List (Nat × Nat),ts.length=bs.length->AV.okL args->(∀b,b∈bs->b.ok)->∀x:Ctx,x.N=N->x.pure->w_ P x c (xH rs v bs' ts) ⟨⟩ ⟨su 0 args,hpOf (bs++uQ 0 ts),bs.length+ts.length⟩)->MCall P f args bs v bs'
theorem wT{P:Program}{f:FuncId}{N:Nat}{c:MC}{rs:List MR}{fn:Func}(hm:P.follows .mixedOrders=true)(hf:P.funcs[f]?=some fn)(h:Ic P fn N c rs=true):WT P f N c rs:=by
 unfold Ic at h;simp only[aG,aI]at h;obtain⟨⟨e,hn⟩,hc,hr⟩:=h;subst e;cases hb:fn.body with
 |none=>rw[hb]at hc;cases hc
 |some b=>
  rw[hb]at hc;exactλhl k=>gu.of_walk hf hb hn hc hr hl λo x e p=>W.aw hm (Si (k o x e p))
theorem wM{P:Program}{f:FuncId}{N:Nat}{c:MC}{rs:List MR}{fn:Func}(hm:P.follows .mixedOrders=true)(hf:P.funcs[f]?=some fn)(h:Ic P fn N c rs=true):WM P f N c rs:=by
 unfold Ic at h;simp only[aG,aI]at h;obtain⟨⟨e,hn⟩,hc,hr⟩:=h;subst e;cases hb:fn.body with
 |none=>rw[hb]at hc;cases hc
 |some b=>
  rw[hb]at hc;exactλhs k=>MCall.of_walk' hf hb hn hc hr hm hs k
attribute [simp] gJ I8 Ls uC FH I9 Sz Ck gZ Lt gV gX Bb gO gH EK FI Lu gEs Ia Lv mW FJ TA TB Lx Ib AU gW gL gC AX iO gB
end Go.Abs
namespace Go.Gr
open Go.Abs Go.Proofs
noncomputable abbrev Pg:Program:=Tryz.prog
theorem iC:Pg.follows .mixedOrders=true:=Tryz.checked.mixed
def TC:List (List TY):=
 let p:=.o (.sc (.pointer none)) 8;let f:=.o (.sc .nilFunc) 8;let q:=.o (.sc .nilIface) 16;let n:=.i .i64
 [[.s,f,n,n,.b,.i .u8,.i .u8,.r 4 24 [2,3,4,6],.r 4 24 [2,3,4,6],.s,.s,.s,.i .u64,.r 2 24 [9,12],.r 2 24 [9,12],p],
  [p,p,.r 1 8 [17],.r 1 8 [17],q,.i .i32,.l 50,f,.l 42,.l 210,.r 3 56 [24,3,25],.r 3 56 [24,3,25],.s,f,f,f],
  [.l 9,.l 35,.r 4 72 [3,9,32,33],.r 4 72 [3,9,32,33],.l 3,.l 69,.l 40,.r 8 152 [3,3,9,36,32,33,37,38],.r 8 152 [3,3,9,36,32,33,37,38],.r 13 240 [9,35,40],.r 13 240 [9,35,40],f,.s,f,f,f],
  [f,.r 2 32 [9,9],.r 2 32 [9,9],.l 83,.l 115,.r 3 32 [9,3,3],.r 3 32 [9,3,3],.r 6 104 [32,51,52,54],.r 6 104 [32,51,52,54],.l 78,.s,f,.s,f,f,f],
  [f,f,f,.l 109,.r 5 120 [36,67,32,37,37],.r 5 120 [36,67,32,37,37],f,f,.s,f,f,f,n,.r 4 32 [3,3,3,76],.r 4 32 [3,3,3,76],f],
  [.l 119,.l 89,.r 2 48 [80,81],.r 2 48 [80,81],.l 148,.l 87,.r 8 120 [3,9,3,3,3,33,32,85],.r 8 120 [3,9,3,3,3,33,32,85],.r 15 224 [9,4,84,9,33,87,3,3],.r 15 224 [9,4,84,9,33,87,3,3],p,p,.l 100,.r 2 32 [3,92],.r 2 32 [3,92],.r 17 272 [56,91,27,57,3,32,33,76,3,3]],
  [.r 17 272 [56,91,27,57,3,32,33,76,3,3],.s,f,.r 3 40 [3,3,33],.r 3 40 [3,3,33],f,f,f,f,f,f,f,.r 2 24 [9,3],.r 2 24 [9,3],f,f],
  [f,.s,f,.l 54,.s,f,.r 4 56 [9,32,3,3],.r 4 56 [9,32,3,3],.s,f,f,f,f,f,f,f],
  [f,f,f,.s,f,.r 5 88 [9,35],.r 5 88 [9,35],.l 134,f,f,f,p,.s,f,f,f],
  [.l 4,.s,f,.r 5 88 [9,35],.r 5 88 [9,35],f,f,f,f,.s,f,f,p,f,.m 9 4,f],
  [f,f,.m 9 69,.s,f,.s,f,f,f,f,.l 173,f,.r 6 88 [3,4,35],.r 6 88 [3,4,35],f,f],
  [f,f,f,f,.l 186,.s,f,.r 6 64 [180,3,3,76,3,3],.r 6 64 [180,3,3,76,3,3],.r 4 40 [3,9,3,3],.r 4 40 [3,9,3,3],f,f,f,.s,f],
  [f,f,f,.s,f,f,.s,f,f,f,f,f,f,.s,f,f],
  [f,.r 3 24 [3,3,3],.r 3 24 [3,3,3],f,f,f,f,f,f,f,f,f,.s,f,f,f],
  [f,f,f,f,f,f,f,f,.s,f,f,.l 237,.r 5 88 [9,35],.r 5 88 [9,35],f,f],
  [p,.a 6 6 240,f,f,f,.i .u64,.i .u64,.l 32,f,f,f,f,n,.s,f,f],
  [f,f,f,f,.i .u32,f,f,f,f,f,f,f,.i .u64,f,f,f],
  [p,f,.a 256 256 5,f,f,f,f,p,.s,f,f,.l 285,.r 2 16 [3,3],.r 2 16 [3,3],f,p],
  [f,.l 295,.l 298,.r 3 56 [289,290,3],.r 3 56 [289,290,3],.i .u16,.r 3 6 [293,293,293],.r 3 6 [293,293,293],f,.r 3 12 [260,260,260],.r 3 12 [260,260,260],f,p,p,.r 4 40 [17,17,17,9],.r 4 40 [17,17,17,9]],
  [.a 0 0 16,.r 0 0 [304],.r 0 0 [304],f,.i .u8,.i .u8,f,p,.i .i32,.i .i32,.r 11 48 [12,12,260,308,5,5,309,310,311,312,313],.r 11 48 [12,12,260,308,5,5,309,310,311,312,313]]]
def tt(k:Nat):TY:=I8 .s (I8 [] TC (k/16)) (k%16)
attribute [simp] tt TC
def TD:MC:=(λx(_:x=gC tt [] [] [] (iO 0 (gB Tryz.f176)))=>x) _ (by dsimp[Tryz.f176])
def TE:MC:=(λx(_:x=gC tt [] [] [(0,TD)] (gB Tryz.f176))=>x) _ (by dsimp[Tryz.f176])
theorem zB3:WT Pg 176 52 TE [.tmp 2,.tmp 3]:=wT iC Tryz.func176 (by kernel_rfl)
def TF:MC:=(λx(_:x=gC tt [] [] [] (gB Tryz.f118))=>x) _ (by dsimp[Tryz.f118])
theorem zj2:WT Pg 118 2 TF [.tmp 0]:=wT iC Tryz.func118 (by kernel_rfl)
def TG:MC:=(λx(_:x=gC tt [] [] [] (iO 0 (gB Tryz.f70)))=>x) _ (by dsimp[Tryz.f70])
def TH:MC:=(λx(_:x=gC tt [] [] [(0,TG)] (gB Tryz.f70))=>x) _ (by dsimp[Tryz.f70])
theorem zkU:WT Pg 70 18 TH [.tmp 2]:=wT iC Tryz.func70 (by kernel_rfl)
def TI:MC:=(λx(_:x=gC tt [] [] [] (gB Tryz.f72))=>x) _ (by dsimp[Tryz.f72])
theorem zje:WT Pg 72 21 TI [.tmp 2]:=wT iC Tryz.func72 (by kernel_rfl)
def TJ:MC:=(λx(_:x=gC tt [] [] [] (gB Tryz.f71))=>x) _ (by dsimp[Tryz.f71])
theorem zj3:WT Pg 71 9 TJ [.tmp 2]:=wT iC Tryz.func71 (by kernel_rfl)
def TL:MC:=(λx(_:x=gC tt [] [] [] (iO 0 (gB Tryz.f45)))=>x) _ (by dsimp[Tryz.f45])
def TM:MC:=(λx(_:x=gC tt [] [] [(0,TL)] (gB Tryz.f45))=>x) _ (by dsimp[Tryz.f45])
theorem zkV:WT Pg 45 45 TM [.tmp 2]:=wT iC Tryz.func45 (by kernel_rfl)
def MB:MC:=(λx(_:x=gC tt [] [(5,[0,1,3,7,15,31,15,15,207,463,1023,2047])] [] (iO 0 (gB Tryz.f178)))=>x) _ (by dsimp[Tryz.f178])
def ME:MC:=(λx(_:x=gC tt [] [(11,[0,1,0,0,12,31])] [] (iO 2 (gB Tryz.f178)))=>x) _ (by dsimp[Tryz.f178])
def TN:MC:=(λx(_:x=gC tt [] [] [(0,MB),(2,ME)] (gB Tryz.f178))=>x) _ (by dsimp[Tryz.f178])
theorem zDz:WT Pg 178 38 TN [.tmp 2]:=wT iC Tryz.func178 (by kernel_rfl)
def TP:MC:=(λx(_:x=gC tt [] [] [] (iO 0 (gB Tryz.f177)))=>x) _ (by dsimp[Tryz.f177])
def TQ:MC:=(λx(_:x=gC tt [] [] [(0,TP)] (gB Tryz.f177))=>x) _ (by dsimp[Tryz.f177])
theorem zAO:WT Pg 177 59 TQ [.tmp 2,.tmp 3]:=wT iC Tryz.func177 (by kernel_rfl)
def MF:MC:=(λx(_:x=gC tt [] [] [] (iO 2 (gB Tryz.f153)))=>x) _ (by dsimp[Tryz.f153])
def TR:MC:=(λx(_:x=gC tt [] [] [(2,MF)] (iO 0 (gB Tryz.f153)))=>x) _ (by dsimp[Tryz.f153])
def TS:MC:=(λx(_:x=gC tt [] [] [(0,TR)] (gB Tryz.f153))=>x) _ (by dsimp[Tryz.f153])
theorem zB4:WT Pg 153 50 TS [.tmp 2]:=wT iC Tryz.func153 (by kernel_rfl)
def MG:MC:=(λx(_:x=gC tt [] [] [] (iO 0 (gB Tryz.f154)))=>x) _ (by dsimp[Tryz.f154])
def TU:MC:=(λx(_:x=gC tt [] [] [(0,MG)] (gB Tryz.f154))=>x) _ (by dsimp[Tryz.f154])
theorem zB5:WT Pg 154 115 TU [.cell 2 true 4,.tmp 3,.tmp 4]:=wT iC Tryz.func154 (by kernel_rfl)
def MH:MC:=(λx(_:x=gC tt [] [] [] (iO 2 (gB Tryz.f119)))=>x) _ (by dsimp[Tryz.f119])
def TV:MC:=(λx(_:x=gC tt [] [] [(2,MH)] (iO 0 (gB Tryz.f119)))=>x) _ (by dsimp[Tryz.f119])
def TW:MC:=(λx(_:x=gC tt [(6,0)] [] [(0,TV)] (gB Tryz.f119))=>x) _ (by dsimp[Tryz.f119])
theorem zEZ:WT Pg 119 86 TW [.tmp 2,.cell 3 true 4]:=wT iC Tryz.func119 (by kernel_rfl)
def TZ:MC:=(λx(_:x=gC tt [] [(2,[0,0,2,6,14,0,32,96,224,510,1022,2046,4095,8191,16383]),(3,[0,0,2,6,14,0,32,96,224,510,1022,2046,4095,8191,16383])] [] (gB Tryz.f127))=>x) _ (by dsimp[Tryz.f127])
theorem zDA:WM Pg 127 41 TZ []:=wM iC Tryz.func127 (by kernel_rfl)
def T9:MC:=(λx(_:x=gC tt [] [(1,[0,1,3,7,0,16,48,112,255,511,0,2047])] [] (gB Tryz.f155))=>x) _ (by dsimp[Tryz.f155])
theorem zDB:WM Pg 155 37 T9 [.tmp 4]:=wM iC Tryz.func155 (by kernel_rfl)
def Ta:MC:=(λx(_:x=gC tt [(9,155)] [] [] (gB Tryz.f120))=>x) _ (by dsimp[Tryz.f120])
theorem zDC:WM Pg 120 18 Ta [.tmp 4]:=wM iC Tryz.func120 (by kernel_rfl)
def Tc:MC:=(λx(_:x=gC tt [(9,120),(9,127)] [] [] (gB Tryz.f122))=>x) _ (by dsimp[Tryz.f122])
theorem zDD:WM Pg 122 12 Tc []:=wM iC Tryz.func122 (by kernel_rfl)
def Td:MC:=(λx(_:x=gC tt [(9,127)] [(1,[0,1,3,7,0,16,48,112,255,511,0,2047])] [] (gB Tryz.f121))=>x) _ (by dsimp[Tryz.f121])
theorem zDE:WM Pg 121 35 Td [.tmp 2]:=wM iC Tryz.func121 (by kernel_rfl)
def Te:MC:=(λx(_:x=gC tt [(9,127)] [] [] (gB Tryz.f158))=>x) _ (by dsimp[Tryz.f158])
theorem zB6:WM Pg 158 22 Te [.tmp 2]:=wM iC Tryz.func158 (by kernel_rfl)
def Tf:MC:=(λx(_:x=gC tt [(9,158),(9,179),(9,120),(9,156)] [] [] (gB Tryz.f156))=>x) _ (by dsimp[Tryz.f156])
theorem zDF:WM Pg 156 31 Tf [.cell 2 true 4]:=wM iC Tryz.func156 (by kernel_rfl)
def Ti:MC:=(λx(_:x=gC tt [(9,120),(9,190)] [] [] (iO 0 (gB Tryz.f179)))=>x) _ (by dsimp[Tryz.f179])
def Tj:MC:=(λx(_:x=gC tt [(9,190),(1,8),(4,19)] [] [(0,Ti)] (gB Tryz.f179))=>x) _ (by dsimp[Tryz.f179])
theorem zE0:WM Pg 179 27 Tj [.cell 2 true 4]:=wM iC Tryz.func179 (by kernel_rfl)
def Tk:MC:=(λx(_:x=gC tt [(9,120)] [] [] (iO 0 (gB Tryz.f190)))=>x) _ (by dsimp[Tryz.f190])
def Tn:MC:=(λx(_:x=gC tt [(9,121),(9,122),(9,156),(9,120)] [] [] (iO 2 (gB Tryz.f190)))=>x) _ (by dsimp[Tryz.f190])
def Tp:MC:=(λx(_:x=gC tt [(9,120),(9,156),(9,122),(9,121),(5,43),(4,45),(4,68)] [] [(0,Tk),(2,Tn)] (gB Tryz.f190))=>x) _ (by dsimp[Tryz.f190])
theorem zDG:WM Pg 190 71 Tp [.cell 2 true 4]:=wM iC Tryz.func190 (by kernel_rfl)
def Tq:MC:=(λx(_:x=gC tt [(9,120),(9,156)] [] [] (gB Tryz.f157))=>x) _ (by dsimp[Tryz.f157])
theorem zDH:WM Pg 157 13 Tq [.tmp 2]:=wM iC Tryz.func157 (by kernel_rfl)
def Tt:MC:=(λx(_:x=gC tt [] [(1,[0,0,2,6,14,0,32,96,224,510,1022,2046,0,4096,12288,28672,0,65536,196608,458752,1044480,2093056,4190208,8388607,16777215])] [] (gB Tryz.f180))=>x) _ (by dsimp[Tryz.f180])
theorem zGz:WM Pg 180 29 Tt [.cell 4 true 8]:=wM iC Tryz.func180 (by kernel_rfl)
def Tu:MC:=(λx(_:x=gC tt [(9,158),(9,159)] [] [] (gB Tryz.f126))=>x) _ (by dsimp[Tryz.f126])
theorem zDI:WM Pg 126 20 Tu [.cell 2 true 8]:=wM iC Tryz.func126 (by kernel_rfl)
def Tv:MC:=(λx(_:x=gC tt [(9,180),(9,120),(9,121),(9,157),(9,122),(9,126),(9,125),(9,181)] [] [] (gB Tryz.f159))=>x) _ (by dsimp[Tryz.f159])
theorem zDJ:WM Pg 159 76 Tv [.cell 2 true 8]:=wM iC Tryz.func159 (by kernel_rfl)
def EL:MC:=(λx(_:x=gC tt [(9,122),(9,121),(9,157),(7,1)] [] [] (gB Tryz.f125))=>x) _ (by dsimp[Tryz.f125])
theorem FK:WM Pg 125 26 EL [.tmp 2,.tmp 3]:=wM iC Tryz.func125 (by kernel_rfl)
def Tw:MC:=(λx(_:x=gC tt [(9,180),(9,120),(9,181)] [] [] (iO 0 (gB Tryz.f181)))=>x) _ (by dsimp[Tryz.f181])
def Ie:MC:=(λx(_:x=gC tt [(9,191),(9,192),(9,181)] [] [(0,Tw)] (gB Tryz.f181))=>x) _ (by dsimp[Tryz.f181])
theorem MJ:WM Pg 181 72 Ie [.cell 4 true 8]:=wM iC Tryz.func181 (by kernel_rfl)
def Tx:MC:=(λx(_:x=gC tt [(9,120),(9,181)] [] [] (iO 0 (gB Tryz.f192)))=>x) _ (by dsimp[Tryz.f192])
def Tz:MC:=(λx(_:x=gC tt [(9,120)] [] [] (iO 2 (gB Tryz.f192)))=>x) _ (by dsimp[Tryz.f192])
def UA:MC:=(λx(_:x=gC tt [(9,181),(9,180),(9,120),(9,156),(9,127)] [] [(0,Tx),(2,Tz)] (gB Tryz.f192))=>x) _ (by dsimp[Tryz.f192])
theorem zE1:WM Pg 192 76 UA [.cell 2 true 8]:=wM iC Tryz.func192 (by kernel_rfl)
def UB:MC:=(λx(_:x=gC tt [(9,158),(9,180),(9,120),(9,191),(9,211)] [] [] (gB Tryz.f191))=>x) _ (by dsimp[Tryz.f191])
theorem zB7:WM Pg 191 39 UB [.cell 2 true 8]:=wM iC Tryz.func191 (by kernel_rfl)
def UC:MC:=(λx(_:x=gC tt [(9,180),(9,120),(9,126),(9,122),(9,121)] [] [] (iO 0 (gB Tryz.f211)))=>x) _ (by dsimp[Tryz.f211])
def UD:MC:=(λx(_:x=gC tt [(9,227)] [] [(0,UC)] (gB Tryz.f211))=>x) _ (by dsimp[Tryz.f211])
theorem zDK:WM Pg 211 33 UD [.cell 2 true 8]:=wM iC Tryz.func211 (by kernel_rfl)
def UE:MC:=(λx(_:x=gC tt [(9,180),(9,120),(9,122),(9,126),(9,234),(9,121),(9,235)] [(2,[0,1,3,7,0,16,48,112,255,511,0,2047])] [] (gB Tryz.f227))=>x) _ (by dsimp[Tryz.f227])
theorem zDL:WM Pg 227 125 UE [.cell 2 true 8]:=wM iC Tryz.func227 (by kernel_rfl)
def UF:MC:=(λx(_:x=gC tt [(9,156),(9,120)] [] [] (iO 0 (gB Tryz.f235)))=>x) _ (by dsimp[Tryz.f235])
def UG:MC:=(λx(_:x=gC tt [(4,16),(9,122),(6,0)] [] [(0,UF)] (gB Tryz.f235))=>x) _ (by dsimp[Tryz.f235])
theorem zB8:WM Pg 235 19 UG [.tmp 2]:=wM iC Tryz.func235 (by kernel_rfl)
def UH:MC:=(λx(_:x=gC tt [(9,121),(9,122),(9,126),(9,120)] [] [] (iO 0 (gB Tryz.f234)))=>x) _ (by dsimp[Tryz.f234])
def UI:MC:=(λx(_:x=gC tt [(0,3),(9,120),(9,126),(9,122),(9,121),(4,106),(6,0)] [(4,[0,1,3,7,0,16,48,112,255,511,0,2047]),(5,[0,1,3,7,15,31,63,127,255,511,1023,2047,4095,8191,16383,2047,34815,100351,231423,493567,1048575,2097151,4194303,8388607,16777215,33554431,67108863,134217727,268435455,536870911,67108863,1140850687,3288334335,7583301631,16173236223,34359738367,68719476735,137438953471,274877906943,549755813887])] [(0,UH)] (gB Tryz.f234))=>x) _ (by dsimp[Tryz.f234])
theorem zAQ:WM Pg 234 109 UI [.cell 4 true 8]:=wM iC Tryz.func234 (by kernel_rfl)
def UJ:MC:=(λx(_:x=gC tt [(9,121),(9,120),(7,1)] [] [] (iO 0 (gB Tryz.f123)))=>x) _ (by dsimp[Tryz.f123])
def UK:MC:=(λx(_:x=gC tt [(6,0)] [] [(0,UJ)] (gB Tryz.f123))=>x) _ (by dsimp[Tryz.f123])
theorem zB9:WM Pg 123 17 UK [.tmp 2]:=wM iC Tryz.func123 (by kernel_rfl)
def UL:MC:=(λx(_:x=gC tt [(9,121),(9,120),(9,156)] [] [] (iO 0 (gB Tryz.f124)))=>x) _ (by dsimp[Tryz.f124])
def UM:MC:=(λx(_:x=gC tt [(9,120),(4,27),(9,122),(6,0)] [] [(0,UL)] (gB Tryz.f124))=>x) _ (by dsimp[Tryz.f124])
theorem zDM:WM Pg 124 30 UM [.tmp 2]:=wM iC Tryz.func124 (by kernel_rfl)
def MK:MC:=(λx(_:x=gC tt [(9,120),(9,121),(9,122),(9,123)] [(3,[0,1,3,7,0,16,48,112,255,511,1023,0,2048,6144,14336,0,32768,98304,229376,522240,1046528,2095104,4194303,0,16777215])] [] (iO 0 (gB Tryz.f74)))=>x) _ (by dsimp[Tryz.f74])
def ML:MC:=(λx(_:x=gC tt [(9,120),(9,122),(9,121),(9,124),(9,125),(4,131),(9,126)] [(11,[0,1,3,7,15,31,63,127,255,511,63,1087,3135,7231,16383,32767,65535,131071,262143]),(13,[0,1,3,7,0,16,48,112,255,511,1023,2047,4095]),(14,[0,1,3,7,0,16,48,112,255,511,1023,2047,4095])] [] (iO 2 (gB Tryz.f74)))=>x) _ (by dsimp[Tryz.f74])
def UN:MC:=(λx(_:x=gC tt [(6,0),(7,1)] [] [(0,MK),(2,ML)] (gB Tryz.f74))=>x) _ (by dsimp[Tryz.f74])
theorem zAR:WM Pg 74 145 UN [.cell 2 true 2]:=wM iC Tryz.func74 (by kernel_rfl)
def UO:MC:=(λx(_:x=gC tt [(9,127)] [(1,[0,1,3,7,15,31,63,127,255,511,63,1087,3135,7231,16383,32767,65535,131071,262143]),(3,[0,1,3,7,0,16,48,112,0,256,768,1792,4095,8191])] [] (gB Tryz.f75))=>x) _ (by dsimp[Tryz.f75])
theorem zE2:WM Pg 75 37 UO [.cell 2 true 4]:=wM iC Tryz.func75 (by kernel_rfl)
def UQ:MC:=(λx(_:x=gC tt [(0,13)] [(2,[0,1,3,0,7,31])] [] (gB Tryz.f73))=>x) _ (by dsimp[Tryz.f73])
theorem zAS:WM Pg 73 15 UQ [.tmp 2,.cell 3 true 4]:=wM iC Tryz.func73 (by kernel_rfl)
def UR:MC:=(λx(_:x=gC tt [(9,73),(9,74),(9,75)] [(3,[0,0,1,7]),(7,[0,0,1,7]),(8,[0,0,1,7])] [] (gB Tryz.f46))=>x) _ (by dsimp[Tryz.f46])
theorem zCa:WT Pg 46 28 UR [.cell 2 true 2,.cell 3 true 4]:=wT iC Tryz.func46 (by kernel_rfl)
structure Ins where
 op:Int
 a:Int
 b:Int
 c:Int
structure Prc where
 caps:Int
 regs:Int
 code:List Ins
def encI(l:List Int):List (List D):=l.map λi=>[.int .i64 i]
def encS(l:List fI):List (List D):=l.map λs=>[.str s]
def iF(l:List (fI × Int)):List (List D):=l.map λx=>[.str x.1,.int .i64 x.2]
inductive gy where
|mk (tags:List Int) (needs:List (fI × Int)) (names:List fI) (fields fn:List gy)
mutual
def gy.enc:gy->List D
|.mk t n s f g=>[.sl false 1 (encI t),.sl false 2 (iF n),.sl false 1 (encS s),.sl false 5 (gy.encs f),.sl false 5 (gy.encs g)]
def gy.encs:List gy->List (List D)
|[]=>[]
|c::cs=>gy.enc c::gy.encs cs
end
theorem gy.encs_map(l:List gy):gy.encs l=l.map gy.enc:=by
 induction l with
 |nil=>simp[gy.encs]
 |cons c l ih=>simp[gy.encs,ih]
structure Cod where
 ints:List Int
 strs:List fI
 shapes:List (List fI)
 cos:List gy
 procs:List Prc
 main:Int
 merge:Bool
@[simp] theorem Ig(l:List Int):(encI l).length=l.length:=by simp[encI]
@[simp] theorem Bc(l:List fI):(encS l).length=l.length:=by simp[encS]
@[simp] theorem Ih(l:List (fI × Int)):(iF l).length=l.length:=by simp[iF]
@[simp] theorem zKx(l:List Int)(k:Nat):(encI l)[k]?=(l[k]?).map λi=>[.int .i64 i]:=by simp[encI]
@[simp] theorem zKy(l:List fI)(k:Nat):(encS l)[k]?=(l[k]?).map λi=>[.str i]:=by simp[encS]
def gy.tags:gy->List Int|.mk t _ _ _ _=>t
def gy.needs:gy->List (fI × Int)|.mk _ n _ _ _=>n
def gy.names:gy->List fI|.mk _ _ s _ _=>s
def gy.fields:gy->List gy|.mk _ _ _ f _=>f
def gy.fn:gy->List gy|.mk _ _ _ _ g=>g
theorem gy.enc_eq(d:gy):d.enc=[.sl false 1 (encI d.tags),.sl false 2 (iF d.needs),.sl false 1 (encS d.names),.sl false 5 (d.fields.map gy.enc),.sl false 5 (d.fn.map gy.enc)]:=by
 cases d with
 |mk t n s f g=>simp[gy.enc,gy.encs_map,gy.tags,gy.needs,gy.names,gy.fields,gy.fn]
@[simp] theorem gy.enc_length(d:gy):d.enc.length=5:=by simp[gy.enc_eq]
@[simp high] theorem gy.enc_0(d:gy):d.enc[0]?=some (.sl false 1 (encI d.tags)):=by simp[gy.enc_eq]
@[simp high] theorem gy.enc_1(d:gy):d.enc[1]?=some (.sl false 2 (iF d.needs)):=by simp[gy.enc_eq]
@[simp high] theorem gy.enc_2(d:gy):d.enc[2]?=some (.sl false 1 (encS d.names)):=by simp[gy.enc_eq]
@[simp high] theorem gy.enc_3(d:gy):d.enc[3]?=some (.sl false 5 (d.fields.map gy.enc)):=by simp[gy.enc_eq]
@[simp high] theorem gy.enc_4(d:gy):d.enc[4]?=some (.sl false 5 (d.fn.map gy.enc)):=by simp[gy.enc_eq]
end Go.Gr
namespace Go.Gr
open Go.Abs Go.Proofs List
inductive gq where
|mk (kind:Int) (name:fI) (names:List fI) (kids:List gq)
mutual
def gq.enc:gq->List D
|.mk k n s l=>[.int .i64 k,.str n,.sl false 1 (encS s),.sl false 4 (gq.encs l)]
def gq.encs:List gq->List (List D)
|[]=>[]
|t::l=>gq.enc t::gq.encs l
end
theorem gq.encs_map(l:List gq):gq.encs l=l.map gq.enc:=by
 induction l with
 |nil=>simp[gq.encs]
 |cons c l ih=>simp[gq.encs,ih]
def gq.kind:gq->Int|.mk k _ _ _=>k
def gq.name:gq->fI|.mk _ n _ _=>n
def gq.names:gq->List fI|.mk _ _ s _=>s
def gq.kids:gq->List gq|.mk _ _ _ l=>l
theorem gq.enc_eq(t:gq):t.enc=[.int .i64 t.kind,.str t.name,.sl false 1 (encS t.names),.sl false 4 (t.kids.map gq.enc)]:=by
 cases t;simp[gq.enc,gq.encs_map,gq.kind,gq.name,gq.names,gq.kids]
@[simp] theorem gq.enc_length(t:gq):t.enc.length=4:=by rw[t.enc_eq];try rfl
@[simp] theorem gq.enc_0(t:gq):t.enc[0]?=some (.int .i64 t.kind):=by rw[t.enc_eq];try rfl
@[simp] theorem gq.enc_1(t:gq):t.enc[1]?=some (.str t.name):=by rw[t.enc_eq];try rfl
@[simp] theorem gq.enc_2(t:gq):t.enc[2]?=some (.sl false 1 (encS t.names)):=by rw[t.enc_eq];try rfl
@[simp] theorem gq.enc_3(t:gq):t.enc[3]?=some (.sl false 4 (t.kids.map gq.enc)):=by rw[t.enc_eq];try rfl
@[simp] theorem gq.enc_g0(t:gq)(h:0<t.enc.length):t.enc[0]=.int .i64 t.kind:=by have:=t.enc_0;rw[aA h]at this;exact bP this
@[simp] theorem gq.enc_g2(t:gq)(h:2<t.enc.length):t.enc[2]=.sl false 1 (encS t.names):=by have:=t.enc_2;rw[aA h]at this;exact bP this
@[simp] theorem gq.enc_g3(t:gq)(h:3<t.enc.length):t.enc[3]=.sl false 4 (t.kids.map gq.enc):=by have:=t.enc_3;rw[aA h]at this;exact bP this
def noT:gq:=.mk 0 (bs []) [] []
structure Tok where
 kind:Int
 text:fI
 line:Int
 col:Int
def Tok.enc(t:Tok):List D:=[.int .i64 t.kind,.str t.text,.int .i64 t.line,.int .i64 t.col]
def yB:Tok:=⟨0,bs [],0,0⟩
@[simp] theorem Tok.enc_length(t:Tok):t.enc.length=4:=rfl
@[simp] theorem Tok.enc_0(t:Tok):t.enc[0]?=some (.int .i64 t.kind):=rfl
@[simp] theorem Tok.enc_1(t:Tok):t.enc[1]?=some (.str t.text):=rfl
@[simp] theorem Tok.enc_2(t:Tok):t.enc[2]?=some (.int .i64 t.line):=rfl
@[simp] theorem Tok.enc_3(t:Tok):t.enc[3]?=some (.int .i64 t.col):=rfl
@[simp] theorem Tok.enc_g0(t:Tok)(h:0<t.enc.length):t.enc[0]=.int .i64 t.kind:=rfl
@[simp] theorem Tok.enc_g1(t:Tok)(h:1<t.enc.length):t.enc[1]=.str t.text:=rfl
@[simp] theorem Tok.enc_g2(t:Tok)(h:2<t.enc.length):t.enc[2]=.int .i64 t.line:=rfl
@[simp] theorem Tok.enc_g3(t:Tok)(h:3<t.enc.length):t.enc[3]=.int .i64 t.col:=rfl
@[simp] theorem Tok.cut_enc(t:Tok):cut t.enc 0 4=t.enc:=rfl
@[simp] theorem Tok.cut_map(t:Tok):cut (t.enc.map AC.d) 0 4=t.enc.map .d:=rfl
inductive gz where
|mk (kind:Int) (text:fI) (n line col:Int) (types:List gq) (names:List fI) (kids:List gz)
mutual
def gz.enc:gz->List D
|.mk k t n a b ts ns ks=>[.int .i64 k,.str t,.int .i64 n,.int .i64 a,.int .i64 b,.sl false 4 (ts.map gq.enc),.sl false 1 (encS ns),.sl false 8 (gz.encs ks)]
def gz.encs:List gz->List (List D)
|[]=>[]
|n::l=>gz.enc n::gz.encs l
end
theorem gz.encs_map(l:List gz):gz.encs l=l.map gz.enc:=by
 induction l with
 |nil=>rfl
 |cons n l ih=>simp[gz.encs,ih]
def qh:gz:=.mk 0 (bs []) 0 0 0 [] [] []
def gz.kind:gz->Int|.mk k _ _ _ _ _ _ _=>k
def gz.text:gz->fI|.mk _ t _ _ _ _ _ _=>t
def gz.n:gz->Int|.mk _ _ n _ _ _ _ _=>n
def gz.line:gz->Int|.mk _ _ _ a _ _ _ _=>a
def gz.col:gz->Int|.mk _ _ _ _ b _ _ _=>b
def gz.types:gz->List gq|.mk _ _ _ _ _ t _ _=>t
def gz.names:gz->List fI|.mk _ _ _ _ _ _ s _=>s
def gz.kids:gz->List gz|.mk _ _ _ _ _ _ _ l=>l
theorem gz.enc_eq(t:gz):t.enc=[.int .i64 t.kind,.str t.text,.int .i64 t.n,.int .i64 t.line,.int .i64 t.col,.sl false 4 (t.types.map gq.enc),.sl false 1 (encS t.names),.sl false 8 (t.kids.map gz.enc)]:=by
 cases t;simp[gz.enc,gz.encs_map,gz.kind,gz.text,gz.n,gz.line,gz.col,gz.types,gz.names,gz.kids]
@[simp] theorem gz.enc_length(t:gz):t.enc.length=8:=by rw[t.enc_eq];try rfl
end Go.Gr
namespace Go.Gr
open Go.Abs Go.Proofs
def bA(l:List UInt8):fI:=⟨l.toArray⟩
def sw(c:Int):Bool:=decide (97<=c/\c<=122\/65<=c/\c<=90\/c=95)
def pQ(c:Int):Bool:=decide (48<=c/\c<=57)
def mX(b:UInt8):Bool:=sw b.toNat
def kJ(b:UInt8):Bool:=pQ b.toNat
def ig:Bool->List UInt8->Nat
|_,[]=>0
|true,c::l=>ig (decide (c≠10)) l+1
|false,c::l=>if c=35 then ig true l+1 else if c=32\/c=9\/c=10\/c=13 then ig false l+1 else 0
def jE(num:Bool):List UInt8->Nat
|[]=>0
|b::l=>if(kJ b||(!num&&mX b))=true then jE num l+1 else 0
def lc:List UInt8->Option (List UInt8 × Nat)
|[]=>none
|c::l=>if c=34 then some ([],1)else if c<32 then none else if c≠92 then(lc l).map λx=>(c::x.1,x.2+1)else
 match l with
 |[]=>none
 |d::l=>if d=92\/d=34 then(lc l).map λx=>(d::x.1,x.2+2)else if d=110 then(lc l).map λx=>(10::x.1,x.2+2)else if d=116 then(lc l).map λx=>(9::x.1,x.2+2)else none
def xI:List (List UInt8):=[[45,62],[61,62],[60,58],[60,60],[60,61],[62,62],[61,61],[43,43]]
def nV:List UInt8:=[40,41,123,125,91,93,44,58,59,61,43,45,42,47,37,38,94,60,124,46]
def zN(l:List UInt8):Nat:=if(xI.any λt=>decide (l.take 2=t))=true then 2 else match l with
|[]=>0
|c::_=>if c∈nV then 1 else 0
def uR:List UInt8->Nat->Option Nat
|[],n=>some n
|c::l,n=>if kJ c=true then uR l (10*n+(c.toNat-48))else none
def Bd(l:List UInt8):Int × Bool:=
 if l.length=0\/19<l.length\/(l.head?=some 48/\1<l.length)then(0,false)else match uR l 0 with
 |none=>(0,false)
 |some n=>if 9223372036854775807<n then(0,false)else(n,true)
def xJ(s:fI):Int × Bool:=Bd s.data.toList
def Cm:List fI:=[bs [97,110,100],bs [97,110,121],bs [97,115],bs [98,111,111,108],bs [101,108,115,101],bs [101,120,112,111,114,116],bs [102,97,108,115,101],bs [102,110],bs [102,117,110,99,116,105,111,110],bs [105,102],bs [105,109,112,111,114,116],bs [105,110],bs [105,110,116],bs [105,115],bs [108,101,116],bs [110,111,116],bs [110,117,108,108],bs [111,114],bs [112,114,105,110,116],bs [114,101,97,100],bs [114,101,99,111,114,100],bs [115,116,114],bs [116,104,101,110],bs [116,114,117,101],bs [119,105,116,104]]
def zO(s:fI):Bool:=Cm.any λw=>decide (w=s)
def nG(s:fI):Bool:=match s.data.toList with
|[]=>false
|c::l=>decide (s.size<=32)&&(!zO s&&(!kJ c&&(c::l).all λb=>mX b||kJ b))
structure og where
 kind:Int
 text:List UInt8
 len:Nat
 e:Int
def lV(e:Int):og:=⟨0,[],0,e⟩
def jF:List UInt8->og
|[]=>lV 5
| c::r=>
 if mX c=true then
  (if 32<jE false (c::r)then lV 2 else⟨if zO (bA ((c::r).take (jE false (c::r))))=true then 2 else 1,(c::r).take (jE false (c::r)),jE false (c::r),0⟩)
 else if kJ c=true then
  (if(Bd ((c::r).take (jE true (c::r)))).2=true then⟨3,(c::r).take (jE true (c::r)),jE true (c::r),0⟩else lV 3)
 else if c=34 then(match lc r with
  |none=>lV 4
  |some (t,n)=>if 256<t.length then lV 2 else⟨4,t,n+1,0⟩)
 else if zN (c::r)=0 then lV 5 else⟨5,(c::r).take (zN (c::r)),zN (c::r),0⟩
def qC:List UInt8->Int->Int->Int × Int
|[],a,b=>(a,b)
|c::l,a,b=>if c=10 then qC l (a+1) 1 else qC l a (b+1)
structure iY where
 module:Int
 line:Int
 col:Int
 e:Int
def iY.enc(d:iY):List D:=[.int .i64 d.module,.int .i64 d.line,.int .i64 d.col,.int .i64 d.e]
def MM:iY:=⟨0,0,0,0⟩
def oh:Nat->List UInt8->Int->Int->List Tok->List Tok × iY
|0,_,_,_,ts=>(ts,MM)
| n+1,l,a,b,ts=>
 let q:=qC (l.take (ig false l)) a b;let l':=l.drop (ig false l)
 if l'=[]then(ts++[⟨0,bs [],q.1,q.2⟩],MM)
 else
  let t:=jF l';let e:=if t.e=0/\ts.length=8192 then 19 else t.e
  if e≠0 then([],⟨0,q.1,q.2,e⟩)else oh n (l'.drop t.len) q.1 (q.2+t.len) (ts++[⟨t.kind,bA t.text,q.1,q.2⟩])
def lI(s:fI):List Tok × iY:=if 65536<s.size then([],⟨0,1,1,2⟩)else oh (s.size+1) s.data.toList 1 1 []
structure PS where
  at':Nat
  deep:Nat
  e:Int
  line:Int
  col:Int
section
variable (L:List Tok)
def iL(p:PS):Tok:=L.getD p.at' yB
def wR(e:Int)(p:PS):PS:=if p.e=0 then {p with e:=e,line:=(iL L p).line,col:=(iL L p).col}else p
def EM(s:fI)(p:PS):Bool:=decide (p.e=0)&&((decide ((iL L p).kind=2)||decide ((iL L p).kind=5))&&decide ((iL L p).text=s))
def iG(s:fI)(p:PS):Bool × PS:=if EM L s p=true then(true,{p with at':=p.at'+1})else(false,p)
def jO(s:fI)(p:PS):PS:=if(iG L s p).1=true then(iG L s p).2 else wR L 7 p
def jK(p:PS):fI × PS:=if p.e=0/\(iL L p).kind=1 then((iL L p).text,{p with at':=p.at'+1})else(bs [],wR L 7 p)
def yY(p:PS):PS:=if 100<=p.deep then wR L 6 p else p
def jT(p:PS):Bool × PS:=if(yY L p).e≠0 then(false,yY L p)else(true,{yY L p with deep:=p.deep+1})
end
section
variable (L:List Tok)
def xK:List fI:=[bs [97,110,121],bs [110,117,108,108],bs [98,111,111,108],bs [105,110,116],bs [115,116,114]]
def vP:Nat->List fI->PS->Option (Nat × PS)
 |_,[],_=>none
 |i,s::l,p=>if(iG L s p).1=true then some (i,(iG L s p).2)else vP (i+1) l p
def AY (ki:PS->gq × PS):Nat->List fI->List gq->PS->(List fI × List gq) × PS
 |0,ns,ks,p=>((ns,ks),p)
 | n+1,ns,ks,p=>
   let a:=jK L p;let k:=ki (jO L (bs [58]) a.2);let m:=iG L (bs [44]) k.2
   if m.1=true then AY ki n (ns++[a.1]) (ks++[k.1]) m.2 else((ns++[a.1],ks++[k.1]),m.2)
def FL (ki:PS->gq × PS) (p:PS):gq × PS:=
   if(iG L (bs [40]) p).1=true then((ki (iG L (bs [40]) p).2).1,jO L (bs [41]) (ki (iG L (bs [40]) p).2).2)
   else if(iG L (bs [123]) p).1=true then
     (if(iG L (bs [125]) (iG L (bs [123]) p).2).1=true then(.mk 5 (bs []) [] [],(iG L (bs [125]) (iG L (bs [123]) p).2).2)
     else(.mk 5 (bs []) (AY L ki (L.length+1) [] [] (iG L (bs [123]) p).2).1.1 (AY L ki (L.length+1) [] [] (iG L (bs [123]) p).2).1.2,jO L (bs [125]) (AY L ki (L.length+1) [] [] (iG L (bs [123]) p).2).2))
   else(.mk 8 (jK L p).1 [] [],(jK L p).2)
def rX(ki:PS->gq × PS)(p:PS):gq × PS:=match vP L 0 xK p with
 |some (i,q)=>(.mk i (bs []) [] [],q)
 |none=>FL L ki p
def rY (ki:PS->gq × PS):Nat->List gq->PS->List gq × PS
 |0,l,p=>(l,p)
 | n +1,l,p=>if(iG L (bs [124]) p).1=true then
     let t:=rX L ki (iG L (bs [124]) p).2
     rY ki n (l++[t.1]) t.2
   else(l,p)
def MN:List gq->gq
 |[t]=>t
 |l=>.mk 7 (bs []) [] l
theorem zHj{l:List gq}(h:l.length≠1):MN l=.mk 7 (bs []) [] l:=by
 match l,h with
 |[],_=>rfl
 |_::_::_,_=>rfl
def qi(ki:PS->gq × PS)(p:PS):gq × PS:=
 let a:=rX L ki p;let r:=rY L ki (L.length+1) [a.1] a.2
 (MN r.1,r.2)
def FM(ki:PS->gq × PS)(p:PS):gq × PS:=
 let a:=qi L ki p;let m:=iG L (bs [45,62]) a.2
 if m.1=true then(.mk 6 (bs []) [] [a.1,(ki m.2).1],(ki m.2).2)else(a.1,m.2)
def uS{α:Type}(x:α × PS):α × PS:=(x.1,{x.2 with deep:=x.2.deep-1})
def wS:Nat->PS->gq × PS
 |0=>λp=>(noT,p)
 |d+1=>λp=>if(jT L p).1=true then uS (FM L (wS d) (jT L p).2)else(noT,(jT L p).2)
def qD(ki:PS->gq × PS)(p:PS):List gq × PS:=if(iG L (bs [58]) p).1=true then([(ki (iG L (bs [58]) p).2).1],(ki (iG L (bs [58]) p).2).2)else([],p)
end
section
variable (L:List Tok)
def kZ(p:PS)(k:Int)(t:fI)(n:Int)(ts:List gq)(ns:List fI)(ks:List gz):gz:=.mk k t n (iL L p).line (iL L p).col ts ns ks
abbrev tC:=bs [108,101,116]
abbrev AZ:=bs [105,102]
abbrev Cn:=bs [116,104,101,110]
abbrev Co:=bs [101,108,115,101]
abbrev uD:=bs [102,110]
def rZ(ki:PS->gq × PS)(p:PS):(fI × List gq) × PS:=
 let s:=jK L (jO L (bs [40]) p);let a:=qD L ki s.2;let b:=qD L ki (jO L (bs [41]) a.2)
 ((s.1,(if a.1.length=0 then [noT]else a.1)++b.1),b.2)
def zQ (ki:PS->gq × PS) (ex rk:PS->gz × PS) (p:PS):gz × PS:=
 if(iG L tC p).1=true then
   let s:=jK L (iG L tC p).2;let t:=qD L ki s.2;let v:=ex (jO L (bs [61]) t.2);let b:=ex (jO L (bs [59]) v.2)
   (kZ L p 5 s.1 0 t.1 [] [v.1,b.1],b.2)
 else if(iG L AZ p).1=true then
   let c:=ex (iG L AZ p).2;let a:=ex (jO L Cn c.2);let b:=ex (jO L Co a.2)
   (kZ L p 11 (bs []) 0 [] [] [c.1,a.1,b.1],b.2)
 else if(iG L uD p).1=true then
   let h:=rZ L ki (iG L uD p).2;let b:=ex (jO L (bs [61,62]) h.2)
   (kZ L p 6 h.1.1 0 h.1.2 [] [b.1],b.2)
 else rk p
def xL:List fI->PS->Option (fI × PS)
 |[],_=>none
 |s::l,p=>if(iG L s p).1=true then some (s,(iG L s p).2)else xL l p
def kg (rk:PS->gz × PS) (signs:List fI):Nat->gz->PS->gz × PS
 |0,a,p=>(a,p)
 | n+1,a,p=>match xL L signs p with
   |none=>(a,p)
   |some (s,q)=>kg rk signs n (kZ L p 14 s 0 [] [] [a,(rk q).1]) (rk q).2
def r9:Nat->List fI
 |0=>[bs [111,114]]
 |1=>[bs [97,110,100]]
 |3=>[bs [43,43]]
 |4=>[bs [43],bs [45],bs [94]]
 |5=>[bs [42],bs [47],bs [37],bs [38],bs [60,60],bs [62,62]]
 |_=>[]
def xM:List fI:=[bs [110,117,108,108],bs [98,111,111,108],bs [105,110,116],bs [115,116,114],bs [114,101,99,111,114,100],bs [102,117,110,99,116,105,111,110]]
def rf (ki:PS->gq × PS) (rk:PS->gz × PS) (p:PS):gz × PS:=
 let a:=rk p
 match xL L [bs [60],bs [60,61],bs [61,61]] a.2 with
 |some (s,q)=>(kZ L a.2 14 s 0 [] [] [a.1,(rk q).1],(rk q).2)
 | none=>
   if(iG L (bs [97,115]) a.2).1=true then
     let t:=ki (iG L (bs [97,115]) a.2).2
     (kZ L a.2 13 (bs []) 0 [t.1] [] [a.1],t.2)
   else if(iG L (bs [105,115]) a.2).1=true then
     match vP L 0 xM (iG L (bs [105,115]) a.2).2 with
     |some (i,q)=>(kZ L a.2 12 (bs []) i [] [] [a.1],q)
     |none=>(kZ L a.2 12 (bs []) 0 [] [] [a.1],wR L 7 (iG L (bs [105,115]) a.2).2)
   else a
def Cq(un:PS->gz × PS)(p:PS):gz × PS:=kg L un (r9 5) (L.length+1) (un p).1 (un p).2
def Cr(un:PS->gz × PS)(p:PS):gz × PS:=kg L (Cq L un) (r9 4) (L.length+1) (Cq L un p).1 (Cq L un p).2
def FN(un:PS->gz × PS)(p:PS):gz × PS:=kg L (Cr L un) (r9 3) (L.length+1) (Cr L un p).1 (Cr L un p).2
def Cs(ki:PS->gq × PS)(un:PS->gz × PS)(p:PS):gz × PS:=rf L ki (FN L un) p
def Ct(ki:PS->gq × PS)(un:PS->gz × PS)(p:PS):gz × PS:=kg L (Cs L ki un) (r9 1) (L.length+1) (Cs L ki un p).1 (Cs L ki un p).2
def FO(ki:PS->gq × PS)(un:PS->gz × PS)(p:PS):gz × PS:=kg L (Ct L ki un) (r9 0) (L.length+1) (Ct L ki un p).1 (Ct L ki un p).2
def wU (ki:PS->gq × PS):Nat->List gq->PS->List gq × PS
 |0,l,p=>(l,p)
 | n+1,l,p=>
   let t:=ki p;let m:=iG L (bs [44]) t.2
   if m.1=true then wU ki n (l++[t.1]) m.2 else(l++[t.1],jO L (bs [93]) m.2)
def uT (ex:PS->gz × PS):Nat->List fI->List gz->PS->(List fI × List gz) × PS
 |0,ns,ks,p=>((ns,ks),p)
 | n+1,ns,ks,p=>
   let s:=jK L p;let k:=ex (jO L (bs [58]) s.2);let m:=iG L (bs [44]) k.2
   if m.1=true then uT ex n (ns++[s.1]) (ks++[k.1]) m.2 else((ns++[s.1],ks++[k.1]),m.2)
abbrev Cu:=bs [119,105,116,104]
def vQ (ex:PS->gz × PS) (q p:PS):gz × PS:=
 if(iG L (bs [125]) p).1=true then(kZ L q 8 (bs []) 0 [] [] [],(iG L (bs [125]) p).2)
 else if p.e≠0\/(iL L p).kind≠1\/(L.getD (p.at'+1) yB).kind≠5\/(L.getD (p.at'+1) yB).text≠bs [58]then
   let a:=ex p;let s:=jK L (jO L Cu a.2);let b:=ex (jO L (bs [58]) s.2)
   (kZ L q 10 s.1 0 [] [] [a.1,b.1],jO L (bs [125]) b.2)
 else
   let r:=uT L ex (L.length+1) [] [] p
   (kZ L q 8 (bs []) 0 [] r.1.1 r.1.2,jO L (bs [125]) r.2)
end
section
variable (L:List Tok)
abbrev Cv:=bs [116,114,117,101]
abbrev Cw:=bs [102,97,108,115,101]
abbrev Cx:=bs [110,117,108,108]
abbrev yZ:=bs [114,101,97,100]
abbrev yC:=bs [112,114,105,110,116]
def FQ(s:fI):Int:=(xJ s).1
def xN (ki:PS->gq × PS) (ex:PS->gz × PS) (p:PS):gz × PS:=
 if p.e=0/\(iL L p).kind=3 then(kZ L p 0 (bs []) (FQ (iL L p).text) [] [] [],{p with at':=p.at'+1})
 else if p.e=0/\(iL L p).kind=4 then(kZ L p 1 (iL L p).text 0 [] [] [],{p with at':=p.at'+1})
 else if(iG L Cv p).1=true then(kZ L p 2 (bs []) 1 [] [] [],(iG L Cv p).2)
 else if(iG L Cw p).1=true then(kZ L p 2 (bs []) 0 [] [] [],(iG L Cw p).2)
 else if(iG L Cx p).1=true then(kZ L p 3 (bs []) 0 [] [] [],(iG L Cx p).2)
 else if(iG L yZ p).1=true then(kZ L p 18 (bs []) 0 [] [] [],jO L (bs [41]) (jO L (bs [40]) (iG L yZ p).2))
 else if(iG L yC p).1=true then
   let k:=ex (jO L (bs [40]) (iG L yC p).2)
   (kZ L p 17 (bs []) 0 [] [] [k.1],jO L (bs [41]) k.2)
 else if(iG L (bs [40]) p).1=true then((ex (iG L (bs [40]) p).2).1,jO L (bs [41]) (ex (iG L (bs [40]) p).2).2)
 else if(iG L (bs [123]) p).1=true then vQ L ex p (iG L (bs [123]) p).2
 else
   let s:=jK L p
   if(iG L (bs [91]) s.2).1=true then
     let t:=wU L ki (L.length+1) [] (iG L (bs [91]) s.2).2
     (kZ L p 19 s.1 0 t.1 [] [],t.2)
   else(kZ L p 4 s.1 0 [] [] [],s.2)
def tF (ex:PS->gz × PS):Nat->gz->PS->gz × PS
 |0,a,p=>(a,p)
 | n +1,a,p=>
   if(iG L (bs [40]) p).1=true then
     let b:=ex (iG L (bs [40]) p).2
     tF ex n (kZ L p 7 (bs []) 0 [] [] [a,b.1]) (jO L (bs [41]) b.2)
   else if(iG L (bs [46]) p).1=true then
     let s:=jK L (iG L (bs [46]) p).2
     tF ex n (kZ L p 9 s.1 0 [] [] [a]) s.2
   else(a,p)
def Cy(ki:PS->gq × PS)(ex:PS->gz × PS)(p:PS):gz × PS:=
 let a:=xN L ki ex p
 tF L ex (L.length+1) a.1 a.2
abbrev tH:=bs [110,111,116]
def zR (ki:PS->gq × PS) (ex un:PS->gz × PS) (p:PS):gz × PS:=
 if(iG L (bs [45]) p).1=true then
   let k:=un (iG L (bs [45]) p).2
   (kZ L p 16 (bs []) 0 [] [] [k.1],k.2)
 else if(iG L tH p).1=true then
   let k:=un (iG L tH p).2
   (kZ L p 15 (bs []) 0 [] [] [k.1],k.2)
 else Cy L ki ex p
def uU (ki:PS->gq × PS):Nat->(PS->gz × PS) × (PS->gz × PS)
 |0=>(λp=>(qh,p),λp=>(qh,p))
 | d+1=>
   (λp=>if(jT L p).1=true then uS (zQ L ki (uU ki d).1 (FO L ki (uU ki d).2) (jT L p).2)else(qh,(jT L p).2),
    λp=>if(jT L p).1=true then uS (zR L ki (uU ki d).1 (uU ki d).2 (jT L p).2)else(qh,(jT L p).2))
def uy:PS->gq × PS:=wS L 102
def EN:PS->gz × PS:=(uU L (uy L) 102).1
def uV:Nat->List fI->PS->List fI × PS
 |0,l,p=>(l,p)
 | n+1,l,p=>
   let s:=jK L p;let m:=iG L (bs [44]) s.2
   if m.1=true then uV n (l++[s.1]) m.2 else(l++[s.1],m.2)
def y5:Nat->List (fI × gq)->PS->List (fI × gq) × PS
 |0,l,p=>(l,p)
 | n+1,l,p=>
   let s:=jK L p;let t:=if(iG L (bs [60,58]) s.2).1=true then uy L (iG L (bs [60,58]) s.2).2 else(noT,s.2);let m:=iG L (bs [44]) t.2
   if m.1=true then y5 n (l++[(s.1,t.1)]) m.2 else(l++[(s.1,t.1)],jO L (bs [93]) m.2)
def y7(p:PS):List (fI × gq) × PS:=if(iG L (bs [91]) p).1=true then y5 L (L.length+1) [] (iG L (bs [91]) p).2 else([],p)
structure jr where
  from_:fI
  names:List fI
  line:Int
  col:Int
structure jd where
  name:fI
  exp:Bool
  vars:List (fI × gq)
  param:fI
  types:List gq
  body:gz
  line:Int
  col:Int
structure jZ where
  imps:List jr
  decs:List jd
abbrev xO:=bs [105,109,112,111,114,116]
abbrev A7:=bs [101,120,112,111,114,116]
def xP:Nat->List jr->PS->List jr × PS
 |0,l,p=>(l,p)
 | n +1,l,p=>if p.e=0/\(iG L xO p).1=true then
     let s:=jK L (iG L xO p).2;let ns:=uV L (L.length+1) [] (jO L (bs [58]) s.2)
     xP n (l++[⟨s.1,ns.1,(iL L p).line,(iL L p).col⟩]) (jO L (bs [59]) ns.2)
   else(l,p)
def rq(p:PS):jd × PS:=
 let x:=iG L A7 p;let s:=jK L (jO L uD x.2);let v:=y7 L s.2;let h:=rZ L (uy L) v.2;let b:=EN L (jO L (bs [61]) h.2)
 (⟨s.1,x.1,v.1,h.1.1,if h.1.2.length=1 then h.1.2++[noT]else h.1.2,b.1,(iL L x.2).line,(iL L x.2).col⟩,jO L (bs [59]) b.2)
def ru:Nat->List jd->PS->List jd × PS
 |0,l,p=>(l,p)
 |n+1,l,p=>if p.e=0/\(iL L p).kind≠0 then ru n (l++[(rq L p).1]) (rq L p).2 else(l,p)
def Be(p:PS):jZ × PS:=
 let i:=xP L (L.length+1) [] p;let d:=ru L (L.length+1) [] i.2
 (⟨i.1,d.1⟩,d.2)
end
structure jL (L:List Tok):Prop where
  pos:0<L.length
  mid:∀i,i<L.length->(L.getD i yB).kind≠0->i+1<L.length
structure Tm (L:List Tok) (p q:PS):Prop where
  deep:q.deep=p.deep
  le:p.at'<=q.at'
  lt:q.at'<L.length
  bad:p.e≠0->q.e≠0
section
variable {L:List Tok}
theorem Tm.refl{p:PS}(h:p.at'<L.length):Tm L p p:=⟨rfl,aQ _,h,id⟩
theorem Tm.trans{p q r:PS}(h:Tm L p q)(k:Tm L q r):Tm L p r:=⟨k.deep.trans h.deep,ak h.le k.le,k.lt,λx=>k.bad (h.bad x)⟩
theorem EO{e:Int}{p:PS}(h:p.at'<L.length):Tm L p (wR L e p):=by
 unfold wR;split
 · rename_i q;exact⟨rfl,aQ _,h,λx=>absurd q x⟩
 · exact Tm.refl h
theorem FR{e:Int}{p:PS}(h:e≠0):(wR L e p).e≠0:=by
 unfold wR;split
 · exact h
 · rename_i q;exact q
theorem iw(hL:jL L){s:fI}{p:PS}(h:p.at'<L.length):Tm L p (iG L s p).2:=by
 unfold iG;split
 · rename_i q;unfold EM iL at q;simp only[aG,dG,aI]at q;refine⟨rfl,by simp,hL.mid _ h (by omega),λx=>absurd q.1 x⟩
 · exact Tm.refl h
theorem take_at{s:fI}{p:PS}(h:(iG L s p).1=true):(iG L s p).2.at'=p.at'+1/\p.e=0:=by
 unfold iG at h⊢;split
 · rename_i q;unfold EM at q;simp only[aG,aI]at q;exact⟨rfl,q.1⟩
 · rename_i q;rw[aB q]at h;cases h
theorem lN{s:fI}{p:PS}(h:¬(iG L s p).1=true):(iG L s p).2=p:=by
 unfold iG at h⊢;split
 · rename_i q;rw[aC q]at h;exact absurd rfl h
 · rfl
theorem jH(hL:jL L){s:fI}{p:PS}(h:p.at'<L.length):Tm L p (jO L s p):=by
 unfold jO;split
 · exact iw hL h
 · exact EO h
theorem zIq{s:fI}{p:PS}:(jO L s p).e≠0\/(jO L s p).at'=p.at'+1:=by
 unfold jO;split
 · rename_i q;exact .inr (take_at q).1
 · exact .inl (FR (by decide))
theorem mE(hL:jL L){p:PS}(h:p.at'<L.length):Tm L p (jK L p).2:=by
 unfold jK;split
 · rename_i q;exact⟨rfl,by simp,hL.mid _ h (by unfold iL at q;omega),λx=>absurd q.1 x⟩
 · exact EO h
theorem Ii{p:PS}(h:p.at'<L.length):Tm L p (yY L p):=by
 unfold yY;split
 · exact EO h
 · exact Tm.refl h
end
end Go.Gr
