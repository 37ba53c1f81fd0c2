/- Texts of ours, joined and written short by a program of ours. -/
import Derived.Test.YtlfjlokfciejnaaGreatDoorCJ04
import Derived.Carry
import Derived.ChangeArms
import Derived.SizedLaws
set_option maxRecDepth 20000
set_option maxHeartbeats 4000000
set_option linter.unusedVariables false
set_option linter.unusedSimpArgs false
namespace Go.Abs
def pI:List (List AC)->Option (List (List D))
|[]=>some []
|r::rs=>match jc r,pI rs with
 |some x,some xs=>some (x::xs)
 |_,_=>none
@[simp] theorem AL(es:List (List D)):pI (es.map (·.map .d))=some es:=by
 induction es with
 |nil=>rfl
 |cons e es ih=>simp[pI,ih]
@[simp] theorem zIW(a b:List (List AC)):pI (a++b)=(pI a).bind λx=>(pI b).map λy=>x++y:=by
 induction a with
 |nil=>simp[pI]
 | cons e a ih=>
  simp only[List.cons_append,pI];cases jc e with
  |none=>simp
  | some x=>
   rw[ih];cases pI a with
   |none=>simp
   |some y=>
    cases pI b with
    |none=>simp
    |some z=>simp
theorem Lh:∀{es:List (List AC)} {ds:List (List D)},pI es=some ds->es=ds.map (·.map .d)
|[],ds,h=>by simp[pI]at h;simp[<-h]
| e::es,ds,h=>by
 simp only[pI]at h;split at h
 ·rename_i x xs h1 h2;cases h;rw[Du h1,Lh h2];rfl
 ·cases h
mutual
def nH(m:Hp):Nat->AC->Option D
|_,.d x=>some x
|_,.msl s b off len=>match m b with
 |.arr s' es=>if s=s'/\off+len<=es.length then(pI es).map λds=>.sl false s ((ds.drop off).take len)else none
 |_=>none
|f+1,.ptr b off=>match m b with
 |.box cs=>(wO m f cs).map λds=>.rp ds off
 |_=>none
|f+1,.fn g caps=>(wO m f caps).map λds=>.fn g ds
|_,_=>none
def wO(m:Hp):Nat->List AC->Option (List D)
|_,[]=>some []
|f,c::cs=>match nH m f c,wO m f cs with
 |some x,some xs=>some (x::xs)
 |_,_=>none
end
mutual
def frzV(m:Hp):AV->Option DV
|.c x=>(nH m 4 x).map .one
|.ag cs=>(wO m 4 cs).map .agg
|.tup vs=>(zL m vs).map .tup
def zL(m:Hp):List AV->Option (List DV)
|[]=>some []
|v::vs=>match frzV m v,zL m vs with
 |some x,some xs=>some (x::xs)
 |_,_=>none
end
@[simp] theorem zK6(m:Hp)(f:Nat)(ds:List D):wO m f (ds.map .d)=some ds:=by
 induction ds with
 |nil=>unfold wO;rfl
 |cons d ds ih=>simp[wO,ih,nH]
theorem Li{m:Hp}:∀(f:Nat) (cs:List AC) (ds:List D),wO m f cs=some ds->ds.length=cs.length
|f,[],ds,e=>by unfold wO at e;cases e;rfl
| f,c::cs,ds,e=>by
 unfold wO at e;split at e
 ·rename_i x xs h1 h2;cases e;simp[Li f cs xs h2]
 ·cases e
def uL(h:PH)(n:Nat)(w:Heap):PH:=λB=>if B<n then h B else w[B]?
section
variable {h:PH} {ρ:RM} {m:Hp} {w:Heap} {n:Nat}
theorem FD(H:HRel h ρ m w):h.le (uL h n w):=λB o e=>by
 unfold uL;split
 ·exact e
 ·exact H.pers B o e
theorem Lj(H:HRel h ρ m w):∀B o,uL h n w B=some o->w[B]?=some o:=λB o e=>by
 unfold uL at e;split at e
 ·exact H.pers B o e
 ·exact e
mutual
theorem Sa (H:HRel h ρ m w) (hnew:∀b p,ρ b=some p->Real (m b) p->n<=p.1):∀(f:Nat) (x:AC) (d:D) (v:Value),nH m f x=some d->RepC h ρ x v->RepD (uL h n w) d v
|f,.d x,d,v,e,r=>by
 unfold nH at e;cases e;simp only[RepC]at r;exact RepD.mono (FD H) x v r
| f, .msl s b off len,d,v,e,r=>by
 unfold nH at e;split at e
 ·rename_i s' es eb;split at e
  ·rename_i hh;obtain⟨h1,h2⟩:=hh;subst h1;simp only[aV]at e;obtain⟨ds,e1,e2⟩:=e;subst e2;have:=Lh e1;subst this;simp only[RepC]at r;obtain⟨p,a,r1,r2,r3,r4,r5⟩:=r;simp only[aU]at h2;have hlen:((ds.drop off).take len).length=len:=by simp;omega
   have how:=H.own b p r1;rw[eb]at how;unfold RepD;rcases how with⟨q1,q2⟩|⟨us,U,g1,g2,g3,g5,g4⟩
   ·have hds:ds=[]:=by simpa using q2
    subst hds;have hl0:len=0:=by simp at h2;omega
    have ho0:off=0:=by simp at h2;omega
    subst hl0 ho0;refine⟨a,p.2-0,by rw[r2];simp,by simp,(λh=>by cases h),by simp[zah],(λha=>⟨by simp,by omega⟩),r5,by simp[RepE]⟩
   ·refine⟨a,p.2-off,by rw[r2,hlen],by omega,(λh=>by cases h),by simp at g5;omega,λha=>?_,r5,?_⟩
    ·have:¬off<p.2:=λhlt=>by rw[r4 hlt]at ha;cases ha
     have hl0:len=0:=by omega
     subst hl0;exact⟨by simp,by omega⟩
    ·by_cases hlt:off<p.2
     ·have ha:=r4 hlt;subst ha;have hn:n<=p.1:=hnew b p r1 (by rw[eb];show 0<p.2;omega);have e4:cellsAt (uL h n w) (some ⟨p.1,off*s,none⟩)=us.drop (off*s):=by
       simp only[cellsAt,hcells,uL];rw[aB (by omega),g1]
      rw[e4];have g6:=iR.to_E g4;have:=(g6.drop off).take len;have key:∀(es:List (List D)) (vs:List Value),RepE h s es vs->RepE (uL h n w) s es vs:=λes vs r=>by
       simpa using RepE.mono (FD H) es vs [] r
      exact key _ _ this
     ·have hl0:len=0:=by omega
      subst hl0;simp[RepE]
  ·cases e
 ·cases e
| f+1,.ptr b off,d,v,e,r=>by
 unfold nH at e;split at e
 ·rename_i cs eb;simp only[aV]at e;obtain⟨ds,e1,e2⟩:=e;subst e2;simp only[RepC]at r;obtain⟨p,r1,r2⟩:=r;have how:=H.own b p r1;rw[eb]at how;obtain⟨us,U,g1,g2,g3⟩:=how;have hn:n<=p.1:=hnew b p r1 (by rw[eb];trivial);unfold RepD;refine⟨p.1,0,by rw[r2];simp,?_⟩;have e4:hcells (uL h n w) p.1=us:=by
   simp only[hcells,uL];rw[aB (by omega),g1]
  rw[e4];exact IZ H hnew f cs ds us e1 (by simpa using g3)
 ·cases e
|f+1,.fn g caps,d,v,e,r=>by
 unfold nH at e;simp only[aV]at e;obtain⟨ds,e1,e2⟩:=e;subst e2;simp only[RepC]at r;obtain⟨vs,r1,r2,r3⟩:=r;unfold RepD;have hl:ds.length=caps.length:=Li f caps ds e1;exact⟨vs,r1,by rw[r2,hl],IZ H hnew f caps ds vs e1 r3⟩
|0,.ptr b off,d,v,e,r=>by unfold nH at e;cases e
|0,.fn g caps,d,v,e,r=>by unfold nH at e;cases e
|0,.ept s b i off,d,v,e,r=>by unfold nH at e;cases e
|_+1,.ept s b i off,d,v,e,r=>by unfold nH at e;cases e
|0,.map b,d,v,e,r=>by unfold nH at e;cases e
|_+1,.map b,d,v,e,r=>by unfold nH at e;cases e
|0,.op q,d,v,e,r=>by unfold nH at e;cases e
|_+1,.op q,d,v,e,r=>by unfold nH at e;cases e
theorem IZ(H:HRel h ρ m w)(hnew:∀b p,ρ b=some p->Real (m b) p->n<=p.1):∀(f:Nat) (cs:List AC) (ds:List D) (vs:List Value),wO m f cs=some ds->iJ h ρ cs vs->RepL (uL h n w) ds vs
|f,[],ds,vs,e,r=>by unfold wO at e;cases e;simp[RepL]
|f,_::_,ds,[],e,r=>by simp[iJ]at r
| f,c::cs,ds,v::vs,e,r=>by
 unfold wO at e;split at e
 ·rename_i x xs h1 h2;cases e;simp only[iJ]at r;simp only[RepL];exact⟨⟨r.1.1,Sa H hnew f c x v h1 r.1.2⟩,IZ H hnew f cs xs vs h2 r.2⟩
 ·cases e
end
mutual
theorem Sb(H:HRel h ρ m w)(hnew:∀b p,ρ b=some p->Real (m b) p->n<=p.1):∀(x:AV) (d:DV) (v:Value),frzV m x=some d->RepV h ρ x v->kR (uL h n w) d v
|.c x,d,v,e,r=>by
 unfold frzV at e;simp only[aV]at e;obtain⟨y,e1,e2⟩:=e;subst e2;simp only[RepV]at r;simp only[kR];exact Sa H hnew _ _ _ _ e1 r
|.ag cs,d,v,e,r=>by
 unfold frzV at e;simp only[aV]at e;obtain⟨y,e1,e2⟩:=e;subst e2;simp only[RepV]at r;obtain⟨vs,r1,r2,r3⟩:=r;simp only[kR];exact⟨vs,r1,by rw[r2,Li _ _ _ e1],IZ H hnew _ _ _ _ e1 r3⟩
|.tup xs,d,v,e,r=>by
 unfold frzV at e;simp only[aV]at e;obtain⟨y,e1,e2⟩:=e;subst e2;simp only[RepV]at r;obtain⟨vs,r1,r2⟩:=r;simp only[kR];exact⟨vs,r1,I1 H hnew _ _ _ e1 r2⟩
theorem I1(H:HRel h ρ m w)(hnew:∀b p,ρ b=some p->Real (m b) p->n<=p.1):∀(xs:List AV) (ds:List DV) (vs:List Value),zL m xs=some ds->zai h ρ xs vs->ji (uL h n w) ds vs
|[],ds,vs,e,r=>by unfold zL at e;cases e;simpa[zai,ji]using r
|_::_,ds,[],e,r=>by simp[zai]at r
| x::xs,ds,v::vs,e,r=>by
 unfold zL at e;split at e
 ·rename_i y ys h1 h2;cases e;simp only[zai]at r;simp only[ji];exact⟨Sb H hnew x y v h1 r.1,I1 H hnew xs ys vs h2 r.2⟩
 ·cases e
end
end
mutual
def D.ok:D->Prop
|.any=>True
|.int k n=>k.min<=n/\n<=k.max
|.bool _=>True
|.str s=>s.size<=zah
|.sc _=>True
|.sl _ s es=>es.length<=zah/\D.okE s es
|.rp cs _=>D.okL cs
|.fn _ cs=>D.okL cs
|.ifc _ _ cs=>D.okL cs
def D.okL:List D->Prop
|[]=>True
|d::ds=>d.ok/\D.okL ds
def D.okE(s:Nat):List (List D)->Prop
|[]=>True
|e::es=>(e.length=s/\D.okL e)/\D.okE s es
end
mutual
theorem RepD.ok{h:PH}:∀(d:D) (v:Value),RepD h d v->d.ok
|.any,_,_=>by simp[D.ok]
|.int k n,v,r=>by simp only[RepD]at r;simp only[D.ok];exact r.2
|.bool _,_,_=>by simp[D.ok]
|.str s,v,r=>by simp only[RepD]at r;simp only[D.ok];exact r.2
|.sc _,_,_=>by simp[D.ok]
|.sl x s es,v,r=>by
 simp only[RepD]at r;obtain⟨a,cap,r1,r2,r3,r4,r5,r6,r7⟩:=r;simp only[D.ok];exact⟨r4,RepE.ok s es _ r7⟩
|.rp cs off,v,r=>by
 simp only[RepD]at r;obtain⟨B,o,r1,r2⟩:=r;simp only[D.ok];exact RepL.ok cs _ r2
|.fn f caps,v,r=>by
 simp only[RepD]at r;obtain⟨vs,r1,r2,r3⟩:=r;simp only[D.ok];exact RepL.ok caps _ r3
|.ifc t ag cs,v,r=>by
 simp only[RepD]at r;obtain⟨vs,r1,r2,r3,r4⟩:=r;simp only[D.ok];exact RepL.ok cs _ r4
theorem RepL.ok{h:PH}:∀(ds:List D) (vs:List Value),RepL h ds vs->D.okL ds
|[],_,_=>by simp[D.okL]
|_::_,[],r=>by simp[RepL]at r
|d::ds,v::vs,r=>by
 simp only[RepL]at r;simp only[D.okL];exact⟨RepD.ok d v r.1.2,RepL.ok ds vs r.2⟩
theorem RepE.ok{h:PH}(s:Nat):∀(es:List (List D)) (vs:List Value),RepE h s es vs->D.okE s es
|[],_,_=>by simp[D.okE]
|e::es,vs,r=>by
 simp only[RepE]at r;simp only[D.okE];exact⟨⟨r.1,RepL.ok e vs r.2.1⟩,RepE.ok s es _ r.2.2⟩
end
mutual
def DV.ok:DV->Prop
|.one x=>x.ok
|.agg cs=>D.okL cs
|.tup vs=>DV.okL vs
def DV.okL:List DV->Prop
|[]=>True
|v::vs=>v.ok/\DV.okL vs
end
mutual
theorem kR.ok{h:PH}:∀(d:DV) (v:Value),kR h d v->d.ok
|.one x,v,r=>by simp only[kR]at r;simp only[DV.ok];exact RepD.ok _ _ r
|.agg cs,v,r=>by
 simp only[kR]at r;obtain⟨vs,r1,r2,r3⟩:=r;simp only[DV.ok];exact RepL.ok _ _ r3
|.tup xs,v,r=>by
 simp only[kR]at r;obtain⟨vs,r1,r2⟩:=r;simp only[DV.ok];exact ji.ok _ _ r2
theorem ji.ok{h:PH}:∀(ds:List DV) (vs:List Value),ji h ds vs->DV.okL ds
|[],_,_=>by simp[DV.okL]
|_::_,[],r=>by simp[ji]at r
|d::ds,v::vs,r=>by
 simp only[ji]at r;simp only[DV.okL];exact⟨kR.ok d v r.1,ji.ok ds vs r.2⟩
end
def D.er:D->D
|.sl _ s es=>.sl false s es
|d=>d
theorem RepD.er{h:PH}{d:D}{v:Value}(r:RepD h d v):RepD h d.er v:=by
 cases d with
 |sl x s es=>
  simp only[D.er];simp only[RepD]at r⊢;obtain⟨a,cap,r1,r2,r3,r4⟩:=r;exact⟨a,cap,r1,r2,(λh=>by cases h),r4⟩
 |_=>exact r
theorem RepL.er{h:PH}:∀{ds:List D} {vs:List Value},RepL h ds vs->RepL h (ds.map D.er) vs
|[],_,_=>by simp[RepL]
|_::_,[],r=>by simp[RepL]at r
|d::ds,v::vs,r=>by
 simp only[RepL]at r;simp only[List.map_cons,RepL];exact⟨⟨r.1.1,r.1.2.er⟩,r.2.er⟩
mutual
def DV.er:DV->DV
|.one x=>.one x.er
|.agg cs=>.agg (cs.map D.er)
|.tup vs=>.tup (DV.ers vs)
def DV.ers:List DV->List DV
|[]=>[]
|v::vs=>v.er::DV.ers vs
end
mutual
theorem kR.er{h:PH}:∀{d:DV} {v:Value},kR h d v->kR h d.er v
|.one x,v,r=>by simp only[kR,DV.er]at r⊢;exact RepD.er r
|.agg cs,v,r=>by
 simp only[kR,DV.er]at r⊢;obtain⟨vs,r1,r2,r3⟩:=r;exact⟨vs,r1,by simpa using r2,r3.er⟩
|.tup xs,v,r=>by
 simp only[kR,DV.er]at r⊢;obtain⟨vs,r1,r2⟩:=r;exact⟨vs,r1,ji.ers r2⟩
theorem ji.ers{h:PH}:∀{ds:List DV} {vs:List Value},ji h ds vs->ji h (DV.ers ds) vs
|[],_,r=>by simpa[ji,DV.ers]using r
|_::_,[],r=>by simp[ji]at r
|d::ds,v::vs,r=>by
 simp only[ji]at r;simp only[DV.ers,ji];exact⟨r.1.er,ji.ers r.2⟩
end
inductive MR where
|tmp (t:Nat)
|cell (t:Nat) (ag:Bool) (sz:Nat)
def nI(P:Program):List MR->List ResultVar->Bool
|[],[]=>true
|.tmp t::rs,.tmp t'::vs=>t==t'&&nI P rs vs
|.cell t ag sz::rs,.cell t' T::vs=>t==t'&&xC P T==some (ag,sz)&&nI P rs vs
|_,_=>false
def AO(S:St)(K:AV->Prop):MR->Prop
|.tmp t=>K (S.get t)
| .cell t ag sz=>match S.get t with
 |.c (.d (.rp cs off))=>Dx ag sz cs off K
 |.c (.ptr b off)=>match S.m b with
  |.box cs=>wN ag sz cs off K
  |_=>False
 |_=>False
def BV(S:St):List MR->(List AV->Prop)->Prop
|[],K=>K []
|r::rs,K=>AO S (λv=>BV S rs λvs=>K (v::vs)) r
def AP:List Value->Value
|[v]=>v
|vs=>.tuple vs.toArray
def one?:List AV->AV
|[v]=>v
|vs=>.tup vs
section
variable {P:Program} {c:Ctx}
theorem znT{S:St}{K:AV->Prop}{r:MR}{rv:ResultVar}(hc:nI P [r] [rv]=true)(hK:AO S K r):∃v,K v/\∀{h:PH} {ρ:RM} {a:Act} {w:World},HRel h ρ S.m w.heap->(∀k,RepV h ρ (S.get k) (a.tmps.getD k undef))->
  ∃vC,iA P (match rv with|.tmp t=>(Pure.pure (a.tmps.getD t undef):Sem Value)|.cell t T=>do loadVar T (<-asAddr (a.tmps.getD t undef))) w vC w/\RepV h ρ v vC:=by
 cases r with
 | tmp t=>
  cases rv with
  |tmp t'=>
   simp only[nI,Bool.and_true,aY]at hc;subst hc;exact⟨_,hK,λ{h ρ a w} H hg=>⟨_,fK _,hg t⟩⟩
  |cell _ _=>simp[nI]at hc
 | cell t ag sz=>
  cases rv with
  |tmp _=>simp[nI]at hc
  | cell t' T=>
   simp only[nI,Bool.and_true,aG,aY]at hc;obtain⟨h1,hT⟩:=hc;subst h1;simp only[AO]at hK;split at hK
   ·rename_i cs off ex;obtain⟨v,kv,F⟩:=Rb hT hK;refine⟨v,kv,λ{h ρ a w} H hg=>?_⟩;have r1:=hg t;rw[ex]at r1;simp only[RepV,RepC,RepD]at r1;obtain⟨B,o',e,rl⟩:=r1;obtain⟨vC,h2,h3⟩:=F (ρ:=ρ) H rl;refine⟨vC,?_,h3⟩;show iA P (do loadVar T (<-asAddr (a.tmps.getD t undef))) w vC w;rw[e];exact(fK (⟨B,o'+off,none⟩:Addr)).bind h2
   ·rename_i b off ex;split at hK
    ·rename_i cs eb;obtain⟨v,kv,F⟩:=LB hT hK;refine⟨v,kv,λ{h ρ a w} H hg=>?_⟩;have r1:=hg t;rw[ex]at r1;simp only[RepV,RepC]at r1;obtain⟨q,hq,e⟩:=r1;have how:=H.own b q hq;rw[eb]at how;obtain⟨vs,U,g1,g2,g3⟩:=how;obtain⟨vC,h2,h3⟩:=F (w:=w) (o:=0) g1 (by simpa using g3);refine⟨vC,?_,h3⟩;show iA P (do loadVar T (<-asAddr (a.tmps.getD t undef))) w vC w;rw[e];simp only[Nat.zero_add]at h2;exact(fK (⟨q.1,off,none⟩:Addr)).bind h2
    ·exact hK.elim
   ·exact hK.elim
theorem Ll{S:St}:∀{rs:List MR} {K:List AV->Prop} {rvs:List ResultVar},nI P rs rvs=true->BV S rs K->∃vs,K vs/\∀{h:PH} {ρ:RM} {a:Act} {w:World},HRel h ρ S.m w.heap->(∀k,RepV h ρ (S.get k) (a.tmps.getD k undef))->
 ∃us:List Value,iA P (rvs.mapM λ|.tmp t=>(Pure.pure (a.tmps.getD t undef):Sem Value)|.cell t T=>do loadVar T (<-asAddr (a.tmps.getD t undef))) w us w/\zai h ρ vs us
|[],K,[],_,hK=>⟨[],hK,λ_ _=>⟨[],fK _,rfl⟩⟩
|[],_,_::_,h,_=>by simp[nI]at h
|r::rs,_,[],h,_=>by cases r<;>simp[nI]at h
| r::rs,K,rv::rvs,hc,hK=>by
 have h1:nI P [r] [rv]=true/\nI P rs rvs=true:=by
  cases r<;>cases rv<;>simp_all[nI]
 simp only[BV]at hK;obtain⟨v,kv,F⟩:=znT h1.1 hK;obtain⟨vs,kvs,G⟩:=Ll h1.2 kv;refine⟨v::vs,kvs,λ{h ρ a w} H hg=>?_⟩;obtain⟨vC,f1,f2⟩:=F (a:=a) H hg;obtain⟨us,g1,g2⟩:=G (a:=a) H hg;refine⟨vC::us,?_,⟨f2,g2⟩⟩;rw[List.mapM_cons];exact f1.bind (g1.bind (fK _))
def uM:Nat->List DV->List (Nat × AV)
|_,[]=>[]
|i,v::vs=>(i,v.av)::uM (i+1) vs
def Ch(rs:List MR)(v:DV):Exit->St->Prop
|.ret,S|.normal,S=>BV S rs λvs=>(frzV S.m (one? vs)).map DV.er=some v
|_,_=>False
theorem Sc{h:PH}{ρ:RM}:∀{ds:List DV} {us:List Value} (i:Nat),ji h ds us->∀k,RepV h ρ (look (uM i ds) k) (if i<=k then us.getD (k-i) undef else undef)
|[],us,i,_,k=>by simp[uM,look,RepV,RepC,RepD]
|_::_,[],_,r,_=>by simp[ji]at r
| d::ds,u::us,i,r,k=>by
 simp only[ji]at r;simp only[uM,look];by_cases hk:k=i
 ·subst hk;simp;exact kR.av r.1
 ·rw[aB hk];have:=Sc (ρ:=ρ) (i+1) r.2 k;by_cases hle:i<=k
  ·rw[aC hle];rw[aC (by omega)]at this;rw[show k-i=(k-(i+1))+1 from by omega];simpa using this
  ·rw[aB hle];rw[aB (by omega)]at this;exact this
theorem gu.of_walk {f : FuncId} {fn : Func} {code : Code} {mc : MC} {rs : List MR} {args : List DV} {v : DV} (hf : P.funcs[f]? = some fn) (hb : fn.body = some code) (hname : (fn.name != "runtime.NumGoroutine") = true)
  (hc:kC P fn.ntmps mc code=true) (hr:nI P rs fn.results.toList=true) (hn:args.length<=fn.ntmps) (h:DV.okL args->∀c:Ctx,c.N=fn.ntmps->c.pure->AW P c mc (Ch rs v) ⟨uM 0 args,λ_=>.non,0⟩):gu P f args v:=by
 refine⟨by unfold callee;rw[hf];simp only[hb];simpa using hname,λph w us hp hG ra=>?_⟩;have hlen:=ra.length;let c:Ctx:=⟨ph,λ_=>none,λ_=>.non,w,fn.ntmps⟩
 have hpure:c.pure:=trivial;refine calls_of_wp hf hb (wp_mono (h (ji.ok _ _ ra) c rfl hpure code hc _ w ?_) λe a' w' ⟨S',r',q⟩=>?_)
 ·refine⟨hG,rfl,?_,ph,λ_=>none,⟨hp,λb=>by simp,(λb p e=>by cases e),(λb c p q e=>by cases e),(λb p e=>by cases e)⟩,(Step.refl _ _ _ _).wk,gD w,λk=>?_⟩
  ·simp[c];omega
  ·show RepV ph (λ_=>none) (look (uM 0 args) k) _;have:=Sc (ρ:=λ_=>none) 0 ra k;simp only[dL,if_true,eP]at this;have e1:(us.toArray++Array.replicate (fn.ntmps-us.toArray.size) undef).getD k undef=us.getD k undef:=by
    rw[aZ,aH,Array.getElem?_append];split
    ·simp
    ·rename_i hh;rw[aS (by simpa using hh)];simp only[dJ];split<;>rfl
   rw[e1];exact this
 ·obtain⟨ph',ρ',H,S0,e0,hg⟩:=r'.ex
  have fin:BV S' rs (λvs=>(frzV S'.m (one? vs)).map DV.er=some v)->∃vC,(results fn a'.tmps).run P w'=.ok vC w'/\∃(vC':Value) (h':PH),Ending.returned vC=.returned vC'/\ph.le h'/\(∀B,B<w.heap.size->h' B=ph B)/\(∀B o,h' B=some o->w'.heap[B]?=some o)/\
    w.heap.size<=w'.heap.size/\(∀B,B<w.heap.size->w'.heap[B]?=w.heap[B]?)/\Same w w'/\kR h' v vC':=by
   intro hk;obtain⟨vs,kv,F⟩:=Ll hr hk;simp only[aV]at kv;obtain⟨v',kv,ev⟩:=kv;subst ev;obtain⟨us',g1,g2⟩:=F (a:=a') H hg;have hnew:∀b p,ρ' b=some p->Real (S'.m b) p->w.heap.size<=p.1:=by
    intro b p h1 h2;rcases S0.own b p h1 h2 with h3|⟨c',q,h3,_⟩
    ·exact h3
    ·cases h3
   have free:∀B,pM c.ρ c.m B:=λB b p h1=>by cases h1
   have hres:iA P (results fn a'.tmps) w' (AP us') w':=by
    unfold results;refine fM (a:=us'.toArray) (w':=w') ?_ ?_
    ·rw[dZ];exact g1.map (f:=List.toArray)
    ·cases us' with
     |nil=>exact fK _
     |cons u us'=>
      cases us' with
      |nil=>exact fK _
      |cons u' us'=>exact fK _
   have hrep:RepV ph' ρ' (one? vs) (AP us'):=by
    cases vs with
    |nil=>
     simp only[zai]at g2;subst g2;simp only[one?,RepV];exact⟨[],rfl,rfl⟩
    | cons x xs=>
     cases us' with
     |nil=>simp[zai]at g2
     | cons u us'=>
      cases xs with
      |nil=>
       simp only[zai]at g2;rw[g2.2];exact g2.1
      | cons y ys=>
       cases us' with
       |nil=>simp[zai]at g2
       |cons u' us'=>
        simp only[one?,RepV];exact⟨_,rfl,g2⟩
   refine⟨_,hres,_,uL ph' w.heap.size w'.heap,rfl,PH.le_trans S0.hle (FD H),λB hB=>?_,Lj H,S0.size,λB hB=>S0.frame B hB (free B),e0,(Sb H hnew _ _ _ kv hrep).er⟩;unfold uL;rw[aC hB];exact S0.hlow B hB (free B)
  cases e with
  |normal=>exact⟨r'.defers,fin q⟩
  |ret=>exact⟨r'.defers,fin q⟩
  |exit _=>exact q.elim
  |goto _=>exact q.elim
  |panic _=>exact q.elim
  |outgrown=>exact q.elim
end
end Go.Abs
namespace Go.Abs
def AC.fz(b s:Nat)(ds:List (List D)):AC->AC
|.msl s' b' off len=>if b'=b/\s'=s/\off+len<=ds.length then .d (.sl false s ((ds.drop off).take len))else .msl s' b' off len
|x=>x
def AV.fz(b s:Nat)(ds:List (List D)):AV->AV
|.c x=>.c (x.fz b s ds)
|.ag cs=>match jc cs with
 |some _=>.ag cs
 |none=>.ag (cs.map (AC.fz b s ds))
|.tup vs=>.tup vs
def Blk.fz(b s:Nat)(ds:List (List D)):Blk->Blk
|.box cs=>match jc cs with
 |some _=>.box cs
 |none=>.box (cs.map (AC.fz b s ds))
|.arr s' es=>match pI es with
 |some _=>.arr s' es
 |none=>.arr s' (es.map (·.map (AC.fz b s ds)))
|x=>x
@[simp] theorem AC.fz_msl{b s:Nat}{ds:List (List D)}{s' b' off len:Nat}:(AC.msl s' b' off len).fz b s ds=if b'=b/\s'=s/\off+len<=ds.length then .d (.sl false s ((ds.drop off).take len))else .msl s' b' off len:=(aR _).trans rfl
@[simp] theorem AC.fz_d{b s:Nat}{ds:List (List D)}{x:D}:(AC.d x).fz b s ds=.d x:=(aR _).trans rfl
@[simp] theorem AC.fz_ptr{b s:Nat}{ds:List (List D)}{i j:Nat}:(AC.ptr i j).fz b s ds=.ptr i j:=(aR _).trans rfl
@[simp] theorem AC.fz_ept{b s:Nat}{ds:List (List D)}{i j k l:Nat}:(AC.ept i j k l).fz b s ds=.ept i j k l:=(aR _).trans rfl
@[simp] theorem AC.fz_map{b s:Nat}{ds:List (List D)}{i:Nat}:(AC.map i).fz b s ds=.map i:=(aR _).trans rfl
@[simp] theorem AV.fz_c{b s:Nat}{ds:List (List D)}{x:AC}:(AV.c x).fz b s ds=.c (x.fz b s ds):=(aR _).trans rfl
@[simp] theorem AV.fz_ag{b s:Nat}{ds:List (List D)}{cs:List AC}:(AV.ag cs).fz b s ds=(match jc cs with
 |some _=>.ag cs
 |none=>.ag (cs.map (AC.fz b s ds))):=(aR _).trans rfl
@[simp] theorem AV.fz_tup{b s:Nat}{ds:List (List D)}{vs:List AV}:(AV.tup vs).fz b s ds=.tup vs:=(aR _).trans rfl
@[simp] theorem Blk.fz_box{b s:Nat}{ds:List (List D)}{cs:List AC}:(Blk.box cs).fz b s ds=(match jc cs with
 |some _=>.box cs
 |none=>.box (cs.map (AC.fz b s ds))):=(aR _).trans rfl
@[simp] theorem Blk.fz_arr{b s:Nat}{ds:List (List D)}{s':Nat}{es:List (List AC)}:(Blk.arr s' es).fz b s ds=(match pI es with
 |some _=>.arr s' es
 |none=>.arr s' (es.map (·.map (AC.fz b s ds)))):=(aR _).trans rfl
@[simp] theorem Blk.fz_dead{b s:Nat}{ds:List (List D)}:Blk.dead.fz b s ds=.dead:=(aR _).trans rfl
@[simp] theorem Blk.fz_nonB{b s:Nat}{ds:List (List D)}:Blk.non.fz b s ds=.non:=(aR _).trans rfl
@[simp] theorem Blk.fz_mapB{b s:Nat}{ds:List (List D)}{es:List (D × AV)}:(Blk.map es).fz b s ds=.map es:=(aR _).trans rfl
@[simp] theorem Blk.fz_pin{b s:Nat}{ds:List (List D)}{t:Nat × Nat}{i:Nat}:(Blk.pin t i).fz b s ds=.pin t i:=(aR _).trans rfl
@[simp] theorem BX{α:Type}(l:List α)(f:α->List D):pI (l.map ((λx=>List.map AC.d x)∘f))=some (l.map f):=by
 rw[<-bv];exact AL _
section
variable {h:PH} {ρ:RM} {m:Hp} {w:Heap} {b s:Nat} {ds:List (List D)}
noncomputable def wP (h:PH) (p:Nat × Nat) (w:Heap):PH:=if 0<p.2 then upd h p.1 w[p.1]? else h
theorem FE(H:HRel h ρ m w){p:Nat × Nat}(e:ρ b=some p)(hb:m b=.arr s (ds.map (·.map .d))):
  HRel (wP h p w) ρ (upd m b .dead) w/\Step h ρ m w (wP h p w) ρ (upd m b .dead) w/\h.le (wP h p w):=by
 unfold wP;by_cases hp:0<p.2
 ·rw[aC hp];obtain⟨a,c⟩:=H.freeze e (show Real (m b) p by rw[hb];exact hp);exact⟨a,c,c.hle⟩
 ·rw[aB hp];obtain⟨a,c⟩:=H.kill (b:=b) (by rw[hb];intro h;cases h);exact⟨a,c,c.hle⟩
theorem RepC.fz(H:HRel h ρ m w){p:Nat × Nat}(e:ρ b=some p)(hb:m b=.arr s (ds.map (·.map .d))){x:AC}{v:Value}(r:RepC h ρ x v):RepC (wP h p w) ρ (x.fz b s ds) v:=by
 have hle:=(FE H e hb).2.2;cases x with
 | msl s' b' off len=>
  show RepC _ _ (if b'=b/\s'=s/\off+len<=ds.length then AC.d (.sl false s ((ds.drop off).take len))else .msl s' b' off len) v;by_cases hh:b'=b/\s'=s/\off+len<=ds.length
  ·rw [aC hh];obtain⟨rfl,rfl,h2⟩:=hh;simp only[RepC]at r⊢;obtain⟨p',a,r1,r2,r3,r4,r5⟩:=r;rw[e]at r1;cases r1;have hlen:((ds.drop off).take len).length=len:=by simp;omega
   have how:=H.own b' p e;rw[hb]at how;unfold RepD;rcases how with⟨q1,q2⟩|⟨us,U,g1,g2,g3,g5,g4⟩
   ·have hds:ds=[]:=by simpa using q2
    subst hds;have hl0:len=0:=by simp at h2;omega
    have ho0:off=0:=by simp at h2;omega
    subst hl0 ho0;exact⟨a,p.2-0,by rw[r2];simp,by simp,(λh=>by cases h),by simp[zah],(λha=>⟨by simp,by omega⟩),r5,by simp[RepE]⟩
   ·refine⟨a,p.2-off,by rw[r2,hlen],by omega,(λh=>by cases h),by simp at g5;omega,λha=>?_,r5,?_⟩
    ·have:¬off<p.2:=λhlt=>by rw[r4 hlt]at ha;cases ha
     have hl0:len=0:=by omega
     subst hl0;exact⟨by simp,by omega⟩
    ·by_cases hlt:off<p.2
     ·have ha:=r4 hlt;subst ha;have e4:cellsAt (wP h p w) (some ⟨p.1,off*s',none⟩)=us.drop (off*s'):=by
       unfold wP;rw[aC (by omega)];simp only[cellsAt,hcells,zaE];rw[g1]
      rw[e4];have g6:=iR.to_E g4;have:=(g6.drop off).take len;have key:∀(es:List (List D)) (vs:List Value),RepE h s' es vs->RepE (wP h p w) s' es vs:=λes vs r=>by
       simpa using RepE.mono hle es vs [] r
      exact key _ _ this
     ·have hl0:len=0:=by omega
      subst hl0;simp[RepE]
  ·rw[aB hh];exact RepC.mono hle (fw _) _ _ r
 |_=>exact RepC.mono hle (fw _) _ _ r
theorem iJ.fz(H:HRel h ρ m w){p:Nat × Nat}(e:ρ b=some p)(hb:m b=.arr s (ds.map (·.map .d))):∀{cs:List AC} {vs:List Value},iJ h ρ cs vs->iJ (wP h p w) ρ (cs.map (AC.fz b s ds)) vs
|[],_,_=>by simp[iJ]
|_::_,[],r=>by simp[iJ]at r
|c::cs,v::vs,r=>by
 simp only[iJ,List.map_cons]at r⊢;exact⟨⟨r.1.1,RepC.fz H e hb r.1.2⟩,iJ.fz H e hb r.2⟩
theorem iR.fz(H:HRel h ρ m w){p:Nat × Nat}(e:ρ b=some p)(hb:m b=.arr s (ds.map (·.map .d))){t:Nat}:∀{es:List (List AC)} {vs:List Value},iR h ρ t es vs->iR (wP h p w) ρ t (es.map (·.map (AC.fz b s ds))) vs
|[],_,_=>by simp[iR]
|c::cs,vs,r=>by
 simp only[iR,List.map_cons,aU]at r⊢;exact⟨r.1,iJ.fz H e hb r.2.1,iR.fz H e hb r.2.2⟩
theorem RepV.fz(H:HRel h ρ m w){p:Nat × Nat}(e:ρ b=some p)(hb:m b=.arr s (ds.map (·.map .d))){x:AV}{v:Value}(r:RepV h ρ x v):RepV (wP h p w) ρ (x.fz b s ds) v:=by
 cases x with
 |c x=>simp only[RepV,AV.fz]at r⊢;exact RepC.fz H e hb r
 | ag cs=>
  rw[AV.fz_ag];split
  ·exact RepV.mono (FE H e hb).2.2 (fw _) _ _ r
  ·simp only[RepV,aU]at r⊢;obtain⟨vs,r1,r2,r3⟩:=r;exact⟨vs,r1,r2,iJ.fz H e hb r3⟩
 |tup vs=>exact RepV.mono (FE H e hb).2.2 (fw _) _ _ r
theorem Blk.fz_non{x:Blk}:x.fz b s ds=.non↔x=.non:=by cases x<;>simp<;>split<;>simp
theorem Blk.fz_real{x:Blk}{p:Nat × Nat}:Real (x.fz b s ds) p↔Real x p:=by cases x<;>simp<;>split<;>simp[Real]
theorem zaI.fz(H:HRel h ρ m w){p q:Nat × Nat}(e:ρ b=some p)(hb:m b=.arr s (ds.map (·.map .d))){x:Blk}(r:zaI h ρ q x w):zaI (wP h p w) ρ q (x.fz b s ds) w:=by
 have hle:=(FE H e hb).2.2;cases x with
 | box cs=>
  rw[Blk.fz_box];split
  ·exact zaI.congr hle (fw _) rfl r
  ·simp only[zaI,aU]at r⊢;obtain⟨vs,T,r1,r2,r3⟩:=r;exact⟨vs,T,r1,r2,iJ.fz H e hb r3⟩
 | arr t es=>
  rw[Blk.fz_arr];split
  ·exact zaI.congr hle (fw _) rfl r
  ·simp only[zaI,aU,List.map_eq_nil_iff]at r⊢;rcases r with r|⟨vs,T,r1,r2,r3,r4,r5⟩
   ·exact .inl r
   ·exact .inr ⟨vs,T,r1,r2,r3,r4,iR.fz H e hb r5⟩
 |_=>exact zaI.congr hle (fw _) rfl r
def yA(m:Hp)(b s:Nat)(ds:List (List D)):Hp:=λi=>if i=b then .dead else(m i).fz b s ds
@[simp] theorem qH(m:Hp)(b s:Nat)(ds:List (List D))(i:Nat):yA m b s ds i=if i=b then .dead else(m i).fz b s ds:=(aR _).trans rfl
theorem HRel.fz(H:HRel h ρ m w){p:Nat × Nat}(e:ρ b=some p)(hb:m b=.arr s (ds.map (·.map .d))):
  HRel (wP h p w) ρ (yA m b s ds) w/\Step h ρ m w (wP h p w) ρ (yA m b s ds) w:=by
 obtain⟨K,S,hle⟩:=FE H e hb;have hn:∀i,yA m b s ds i=.non↔upd m b .dead i=.non:=λi=>by
  unfold yA;by_cases hi:i=b
  ·subst hi;rw[aC rfl,zaE]
  ·rw[aB hi,zcg _ _ hi];exact Blk.fz_non
 have hr:∀i q,Real (yA m b s ds i) q↔Real (upd m b .dead i) q:=λi q=>by
  unfold yA;by_cases hi:i=b
  ·subst hi;rw[aC rfl,zaE]
  ·rw[aB hi,zcg _ _ hi];exact Blk.fz_real
 refine⟨⟨K.pers,λi=>(hn i).trans (K.dom i),λi q hq=>?_,λi j q q' h1 h2 h3 h4=>K.inj i j q q' h1 h2 ((hr _ _).1 h3) ((hr _ _).1 h4),λi q h1 h2=>K.sep i q h1 ((hr _ _).1 h2)⟩,
  ⟨S.hle,S.hlow,S.rle,S.size,S.frame,λi q h1 h2=>S.own i q h1 ((hr _ _).1 h2)⟩⟩
 unfold yA;by_cases hi:i=b
 ·subst hi;rw[aC rfl];trivial
 ·rw[aB hi];exact zaI.fz H e hb (H.own i q hq)
end
theorem qV.fz{P:Program}{c:Ctx}{get:Nat->AV}{m:Hp}{a:Act}{w:World}{b s:Nat}{ds:List (List D)}(R:qV P c get m a w)(hb:m b=.arr s (ds.map (·.map .d))):qV P c (λk=>(get k).fz b s ds) (yA m b s ds) a w:=by
 obtain⟨h,ρ,H,S,sm,r⟩:=R.ex;have hne:ρ b≠none:=λe=>by have:=(H.dom b).2 e;rw[hb]at this;cases this
 obtain⟨p,e⟩:=Option.ne_none_iff_exists'.1 hne;obtain⟨K,T⟩:=H.fz e hb;exact⟨R.gnd,R.defers,R.size,⟨_,ρ,K,S.trans T,sm,λk=>RepV.fz H e hb (r k)⟩⟩
def vO(S:St):List Nat->(St->Prop)->Prop
|[],K=>K S
| b::l,K=>match S.m b with
 |.arr s es=>match pI es with
  |some ds=>vO ⟨S.t.map λkv=>(kv.1,kv.2.fz b s ds),yA S.m b s ds,S.n⟩ l K
  |none=>False
 |_=>False
@[simp] theorem wQ{S:St}{K:St->Prop}:vO S [] K=K S:=(aR _).trans rfl
@[simp] theorem BZ{S:St}{K:St->Prop}{b:Nat}{l:List Nat}:vO S (b::l) K=(match S.m b with
 |.arr s es=>match pI es with
  |some ds=>vO ⟨S.t.map λkv=>(kv.1,kv.2.fz b s ds),yA S.m b s ds,S.n⟩ l K
  |none=>False
 |_=>False):=(aR _).trans rfl
theorem vO.mono{K K':St->Prop}:∀(l:List Nat) {S:St},vO S l K->(∀S',K S'->K' S')->vO S l K'
|[],S,h,k=>k S h
| b::l,S,h,k=>by
 unfold vO at h⊢;split
 ·rename_i s es eb;rw[eb]at h;simp only at h;split
  ·rename_i ds ed;rw[ed]at h;exact vO.mono l h k
  ·rename_i ed;rw[ed]at h;exact h
 ·rename_i hn;split at h
  ·rename_i s es eb;exact(hn s es eb).elim
  ·exact h
theorem iT(t:List (Nat × AV))(b s:Nat)(ds:List (List D))(k:Nat):look (t.map λkv=>(kv.1,kv.2.fz b s ds)) k=(look t k).fz b s ds:=by
 induction t with
 |nil=>rfl
 |cons x t ih=>
  obtain⟨j,v⟩:=x;simp only[List.map_cons,look];split
  ·rfl
  ·exact ih
theorem AW.fzq{P:Program}{c:Ctx}{mc:MC}{Q:Exit->St->Prop}:∀(l:List Nat) {S:St},vO S l (λS'=>AW P c mc Q S')->AW P c (.fzq mc) Q S
|[],S,h=>λcode hc a w r=>h code (by simpa[kC]using hc) a w r
| b::l,S,h=>by
 unfold vO at h;split at h
 ·rename_i s es eb;split at h
  ·rename_i ds ed;have:=Lh ed;subst this;have k:=AW.fzq l h;intro code hc a w r;refine k code hc a w ?_;have:=r.fz eb;have eg:(St.get ⟨S.t.map λkv=>(kv.1,kv.2.fz b s ds),yA S.m b s ds,S.n⟩)=λk=>(S.get k).fz b s ds:=funext λk=>iT _ _ _ _ _;rw[eg];exact this
  ·exact h.elim
 ·exact h.elim
abbrev gQ:=@AV.fz_c
end Go.Abs
namespace Go.Abs
inductive EG where
|t (k:Nat)
|c (b i:Nat)
|a (k i:Nat)
section
variable {h:PH} {ρ:RM} {m:Hp} {w:Heap}
theorem HRel.reblk(H:HRel h ρ m w){b:Nat}{p:Nat × Nat}(e:ρ b=some p){blk:Blk}(hn:blk≠.non)(hr:Real blk p↔Real (m b) p)(r:zaI h ρ p blk w):
  HRel h ρ (upd m b blk) w/\Step h ρ m w h ρ (upd m b blk) w:=by
 have key:∀c q,ρ c=some q->(Real (upd m b blk c) q↔Real (m c) q):=λc q hq=>by
  by_cases hc:c=b
  ·subst hc;rw[zaE];rw[e]at hq;cases hq;exact hr
  ·rw[zcg _ _ hc]
 refine⟨⟨H.pers,?_,?_,?_,?_⟩,⟨fu h,λB hB _=>rfl,fw _,aQ _,λB hB _=>rfl,?_⟩⟩
 ·intro c;by_cases hc:c=b
  ·subst hc;rw[zaE,e];simp[hn]
  ·rw[zcg _ _ hc];exact H.dom c
 ·intro c q hq;by_cases hc:c=b
  ·subst hc;rw[zaE];rw[e]at hq;cases hq;exact r
  ·rw[zcg _ _ hc];exact H.own c q hq
 ·intro c d q r hc hd hs ht heq;exact H.inj c d q r hc hd ((key c q hc).1 hs) ((key d r hd).1 ht) heq
 ·intro c q hq hs;exact H.sep c q hq ((key c q hq).1 hs)
 ·intro c q hq hs;exact .inr ⟨c,q,hq,(key c q hq).1 hs,rfl⟩
theorem RepC.own{s n:Nat}{v:Value}(e:ρ n=some (0,0))(r:RepC h ρ (.d (.sl true s [])) v):RepC h ρ (.msl s n 0 0) v:=by
 simp only[RepC,RepD]at r⊢;obtain⟨a,cap,r1,r2,r3,r4,r5,r6,r7⟩:=r;have hc:cap=0:=by simpa using r3 trivial
 subst hc;exact⟨(0,0),a,e,by simpa using r1,aQ _,λh=>absurd h (by simp),λq _ h=>absurd h (by simp)⟩
theorem iJ.setAt{c':AC}:∀{cs:List AC} {vs:List Value} {i:Nat} {c:AC},cs[i]?=some c->(∀v:Value,RepC h ρ c v->RepC h ρ c' v)->iJ h ρ cs vs->iJ h ρ (cs.set i c') vs
|[],vs,i,c,e,_,_=>by simp at e
|_::_,[],_,_,_,_,r=>by simp[iJ]at r
|d::cs,v::vs,0,c,e,hc,r=>by
 simp only[List.getElem?_cons_zero,af]at e;subst e;simp only[iJ,List.set_cons_zero]at r⊢;exact⟨⟨r.1.1,hc v r.1.2⟩,r.2⟩
|d::cs,v::vs,i+1,c,e,hc,r=>by
 simp only[List.getElem?_cons_succ]at e;simp only[iJ,List.set_cons_succ]at r⊢;exact⟨r.1,iJ.setAt e hc r.2⟩
end
def qI(S:St):List EG->(St->Prop)->Prop
|[],K=>K S
|.t k::l,K=>match S.get k with
 |.c (.d (.sl true s []))=>S.m S.n=.non/\qI ⟨(k,.c (.msl s S.n 0 0))::S.t,upd S.m S.n (.arr s []),S.n+1⟩ l K
 |_=>False
| .a k i::l,K=>match S.get k with
 |.ag cs=>match cs[i]? with
  |some (.d (.sl true s []))=>S.m S.n=.non/\qI ⟨(k,.ag (cs.set i (.msl s S.n 0 0)))::S.t,upd S.m S.n (.arr s []),S.n+1⟩ l K
  |_=>False
 |_=>False
| .c b i::l,K=>match S.m b with
 |.box cs=>match cs[i]? with
  |some (.d (.sl true s []))=>S.m S.n=.non/\qI ⟨S.t,upd (upd S.m S.n (.arr s [])) b (.box (cs.set i (.msl s S.n 0 0))),S.n+1⟩ l K
  |_=>False
 |_=>False
@[simp] theorem Sd{S:St}{K:St->Prop}:qI S [] K=K S:=(aR _).trans rfl
@[simp] theorem zLq{S:St}{K:St->Prop}{k:Nat}{l:List EG}:qI S (.t k::l) K=(match S.get k with
 |.c (.d (.sl true s []))=>S.m S.n=.non/\qI ⟨(k,.c (.msl s S.n 0 0))::S.t,upd S.m S.n (.arr s []),S.n+1⟩ l K
 |_=>False):=(aR _).trans rfl
@[simp] theorem Sg{S:St}{K:St->Prop}{b i:Nat}{l:List EG}:qI S (.c b i::l) K=(match S.m b with
 |.box cs=>match cs[i]? with
  |some (.d (.sl true s []))=>S.m S.n=.non/\qI ⟨S.t,upd (upd S.m S.n (.arr s [])) b (.box (cs.set i (.msl s S.n 0 0))),S.n+1⟩ l K
  |_=>False
 |_=>False):=(aR _).trans rfl
theorem qI.mono{K K':St->Prop}:∀(l:List EG) {S:St},qI S l K->(∀S',K S'->K' S')->qI S l K'
|[],S,h,k=>k S h
| .t i::l,S,h,k=>by
 unfold qI at h⊢;split<;>rename_i q
 ·rename_i s;rw[q]at h;exact⟨h.1,qI.mono l h.2 k⟩
 ·split at h
  ·rename_i s e;exact(q s e).elim
  ·exact h
| .a j i::l,S,h,k=>by
 unfold qI at h⊢;split<;>rename_i q
 ·rename_i cs;rw[q]at h;simp only at h;split<;>rename_i q'
  ·rename_i s;rw[q']at h;exact⟨h.1,qI.mono l h.2 k⟩
  ·split at h
   ·rename_i s e;exact(q' s e).elim
   ·exact h
 ·split at h
  ·rename_i s e;exact(q s e).elim
  ·exact h
| .c b i::l,S,h,k=>by
 unfold qI at h⊢;split<;>rename_i q
 ·rename_i cs;rw[q]at h;simp only at h;split<;>rename_i q'
  ·rename_i s;rw[q']at h;exact⟨h.1,qI.mono l h.2 k⟩
  ·split at h
   ·rename_i s e;exact(q' s e).elim
   ·exact h
 ·split at h
  ·rename_i s e;exact(q s e).elim
  ·exact h
section
variable {P:Program} {c:Ctx} {S:St} {a:Act} {w:World}
theorem qV.own0(R:qV P c S.get S.m a w)(hn:S.m S.n=.non)(s:Nat):
  ∃(h:PH) (ρ:RM),HRel h ρ (upd S.m S.n (.arr s [])) w.heap/\yQ c.h c.ρ c.m c.w.heap h ρ (upd S.m S.n (.arr s [])) w.heap/\Same c.w w/\(∀k,RepV h ρ (S.get k) (a.tmps.getD k undef))/\ρ S.n=some (0,0):=by
 obtain⟨h,ρ,H,S0,sm,r⟩:=R.ex;obtain⟨K,T⟩:=H.none hn s;exact⟨h,_,K,S0.trans T,sm,λk=>RepV.mono T.hle T.rle _ _ (r k),zaE _ _ _⟩
end
theorem AW.owq{P:Program}{c:Ctx}{mc:MC}{Q:Exit->St->Prop}:∀(l:List EG) {S:St},qI S l (λS'=>AW P c mc Q S')->AW P c (.owq mc) Q S
|[],S,h=>λcode hc a w r=>h code (by simpa[kC]using hc) a w r
| .t k::l,S,h=>by
 unfold qI at h;split at h
 ·rename_i s e;have k:=AW.owq l h.2;intro code hc a w r;refine k code hc a w ?_;obtain⟨hh,ρ,H,S0,sm,rr,e0⟩:=r.own0 h.1 s;refine⟨r.gnd,r.defers,r.size,hh,ρ,H,S0,sm,λj=>?_⟩;show RepV hh ρ (look _ j) _;simp only[look];split
  ·rename_i ej;subst ej;have:=rr j;rw[e]at this;simp only[RepV]at this⊢;exact this.own e0
  ·exact rr j
 ·exact h.elim
| .a k i::l,S,h=>by
 unfold qI at h;split at h
 ·rename_i cs e;split at h
  ·rename_i s e';have k:=AW.owq l h.2;intro code hc a w r;refine k code hc a w ?_;obtain⟨hh,ρ,H,S0,sm,rr,e0⟩:=r.own0 h.1 s;refine⟨r.gnd,r.defers,r.size,hh,ρ,H,S0,sm,λj=>?_⟩;show RepV hh ρ (look _ j) _;simp only[look];split
   ·rename_i ej;subst ej;have:=rr j;rw[e]at this;simp only[RepV,List.length_set]at this⊢;obtain⟨vs,r1,r2,r3⟩:=this;exact⟨vs,r1,r2,r3.setAt e' λv q=>q.own e0⟩
   ·exact rr j
  ·exact h.elim
 ·exact h.elim
| .c b i::l,S,h=>by
 unfold qI at h;split at h
 ·rename_i cs e;split at h
  ·rename_i s e';have k:=AW.owq l h.2;intro code hc a w r;refine k code hc a w ?_;obtain⟨hh,ρ,H,S0,sm,rr,e0⟩:=r.own0 h.1 s;have hne:b≠S.n:=λq=>by rw[q,h.1]at e;cases e
   have hb:upd S.m S.n (.arr s []) b=.box cs:=by rw[zcg _ _ hne];exact e
   have hρ:ρ b≠none:=λq=>by have:=(H.dom b).2 q;rw[hb]at this;cases this
   obtain⟨p,ep⟩:=Option.ne_none_iff_exists'.1 hρ;have hB:=H.own b p ep;rw[hb]at hB;obtain⟨vs,T,r1,r2,r3⟩:=hB;obtain⟨K,T⟩:=H.reblk (blk:=.box (cs.set i (.msl s S.n 0 0))) ep (by simp) (by rw[hb];exact Iff.rfl) ⟨vs,T,r1,by simpa using r2,r3.setAt e' λv q=>q.own e0⟩;exact⟨r.gnd,r.defers,r.size,hh,ρ,K,S0.trans T,sm,rr⟩
  ·exact h.elim
 ·exact h.elim
end Go.Abs
namespace Go.Abs
def gd(b want:Bool)(A B:Prop):Prop:=(b=want->A)/\(b=(!want)->B)
@[simp↓] theorem zom (A B:Prop):gd true true A B=A:=by simp[gd]
@[simp↓] theorem zHt (A B:Prop):gd false false A B=A:=by simp[gd]
@[simp↓] theorem zLr (A B:Prop):gd true false A B=B:=by simp[gd]
@[simp↓] theorem zon (A B:Prop):gd false true A B=B:=by simp[gd]
theorem gd.mk{b want:Bool}{A B:Prop}(h1:b=want->A)(h2:b=(!want)->B):gd b want A B:=⟨h1,h2⟩
structure Tag {α:Type} (a:α):Type where
 mk::
def FF(P:Program)(f:FuncId)(ds:List DV)(K:DV->Prop)(_:Tag K):Prop:=∃v,gu P f ds v/\K v
theorem FF.mk{P:Program}{f:FuncId}{ds:List DV}{K:DV->Prop}{t:Tag K}{v:DV}(h:gu P f ds v)(k:K v):FF P f ds K t:=⟨v,h,k⟩
def Lm(q:Value->Prop):Prop:=∀v,q v->Dw v
@[simp] theorem zJ7:Lm Dw:=λ_ h=>h
def W(P:Program)(c:Ctx):MC->(Exit->St->Prop)->St->Prop
|.skip,Q,S=>Q .normal S
|.reg os,Q,S=>qf P os S (λS'=>Q .normal S')
|.regd bef os,Q,S=>nU P os S [] (λS' fps=>FC bef fps=true/\Q .normal S')
|.seq a b,Q,S=>W P c a (yU (W P c b Q) Q) S
|.cond (.t k) a b,Q,S=>match S.get k with
 |.c (.d (.bool t))=>gd t true (W P c a Q (S.know k true)) (W P c b Q (S.know k false))
 |.c (.op q)=>Lm q/\W P c a Q S/\W P c b Q S
 |_=>False
|.cond (.k _) _ _,_,_=>False
|.block i b,Q,S=>W P c b (Cg i Q) S
|.loop b,Q,S=>AW P c (.loop b) Q S
|.exit i,Q,S=>Q (.exit i) S
|.ret,Q,S=>Q .ret S
|.fzq a,Q,S=>∃l,vO S l λS'=>W P c a Q S'
|.owq a,Q,S=>∃l,qI S l λS'=>W P c a Q S'
theorem W.aw{P:Program}{c:Ctx}(hm:P.follows .mixedOrders=true):∀{mc:MC} {Q:Exit->St->Prop} {S:St},W P c mc Q S->AW P c mc Q S
|.skip,Q,S,h=>AW.skip h
|.reg os,Q,S,h=>AW.reg h
|.regd bef os,Q,S,h=>AW.regd hm h
| .seq a b,Q,S,h=>AW.seq ((show AW P c a (yU (W P c b Q) Q) S from W.aw hm h).mono (Q':=yU (AW P c b Q) Q) λe S' q=>by
  cases e with
  |normal=>exact W.aw hm q
  |_=>exact q)
| .cond (.t k) a b,Q,S,h=>by
 simp only[W]at h;split at h
 ·rename_i t e;refine AW.cond (x:=.t k) e (λht=>?_) (λht=>?_)
  ·have h1:=W.aw hm (h.1 ht);intro code hc ac w r;rw[ht]at e;exact h1 code hc ac w (by rw[gP e];exact r)
  ·have h1:=W.aw hm (h.2 (by simpa using ht));intro code hc ac w r;rw[ht]at e;exact h1 code hc ac w (by rw[gP e];exact r)
 ·rename_i q e;exact AW.condU (x:=.t k) e h.1 (W.aw hm h.2.1) (W.aw hm h.2.2)
 ·exact h.elim
|.cond (.k x) a b,Q,S,h=>False.elim h
|.block i b,Q,S,h=>AW.block (W.aw hm h)
|.loop b,Q,S,h=>h
|.exit i,Q,S,h=>AW.exit h
|.ret,Q,S,h=>AW.ret h
|.fzq a,Q,S,h=>by
 obtain⟨l,h⟩:=h;exact AW.fzq l (vO.mono l h λS' k=>W.aw hm k)
|.owq a,Q,S,h=>by
 obtain⟨l,h⟩:=h;exact AW.owq l (qI.mono l h λS' k=>W.aw hm k)
def I4(S:St)(K:St->Prop)(_:Tag K):Prop:=∃l,vO S l K
def I5(S:St)(K:St->Prop)(_:Tag K):Prop:=∃l,qI S l K
theorem I5.mk{S:St}{K:St->Prop}{g:Tag K}(l:List EG)(h:qI S l K):I5 S K g:=⟨l,h⟩
theorem I4.mk{S:St}{K:St->Prop}{g:Tag K}(l:List Nat)(h:vO S l K):I4 S K g:=⟨l,h⟩
def w_(P:Program)(c:Ctx)(mc:MC)(Q:Exit->St->Prop)(_:Tag (mc,Q))(S:St):Prop:=W P c mc Q S
def lU(P:Program)(c:Ctx)(mc:MC)(Q:Exit->St->Prop)(_:Tag (mc,Q))(S:St):Prop:=AW P c (.loop mc) Q S
def rO(P:Program)(os:List MO)(K:St->Prop)(_:Tag (os,K))(S:St):Prop:=qf P os S K
def rD(P:Program)(os:List MO)(K:St->List FP->Prop)(_:Tag (os,K))(S:St)(fps:List FP):Prop:=nU P os S fps K
def eV(P:Program)(K:AV->List Nat->List (Nat × Blk)->Nat->Prop)(op:xD)(_:Tag (op,K))(get:Nat->AV)(m:Hp)(n:Nat):Prop:=ev P get m n K op
def Next{Y:Type}(I:Y->Prop)(t:Y->List (Nat × AV))(bs:Y->List Blk)(μ:Y->Nat)(x:Y)(_:Tag (I,t,bs,μ,x))(S:St):Prop:=∃x' l,I x'/\iM l S (t x') (bs x')/\μ x'<μ x
theorem Next.mk{Y:Type}{I:Y->Prop}{t:Y->List (Nat × AV)}{bs:Y->List Blk}{μ:Y->Nat}{x:Y}{g:Tag (I,t,bs,μ,x)}{S:St}(x':Y)(l:List Nat)(h1:I x')(h2:μ x'<μ x)(h3:iM l S (t x') (bs x')):Next I t bs μ x g S:=⟨x',l,h1,h3,h2⟩
theorem W.loop{P:Program}{c:Ctx}{Q:Exit->St->Prop}{S:St}{Y:Type}(hm:P.follows .mixedOrders=true)(hp:c.pure){body:MC}{g:Tag (body,Q)}(I:Y->Prop)(t:Y->List (Nat × AV))(bs:Y->List Blk)(μ:Y->Nat)(x0:Y)(l0:List Nat)(hI:I x0)(h0:iM l0 S (t x0) (bs x0))
  (round:∀x,I x->w_ P c body (yU (Next I t bs μ x ⟨⟩) Q) ⟨⟩ (hd (t x) (bs x))):lU P c body Q g S:=
 AW.loop hp I t bs μ hI h0 λx hx=>W.aw hm (round x hx)
section
variable {P:Program} {c:Ctx} {Q:Exit->St->Prop} {S:St}
theorem Si{mc:MC}(h:w_ P c mc Q ⟨⟩ S):W P c mc Q S:=h
@[simp] theorem zLb{g}:w_ P c .skip Q g S=Q .normal S:=(aR _).trans rfl
@[simp] theorem zLs(os:List MO){g}:w_ P c (.reg os) Q g S=rO P os (λS'=>Q .normal S') ⟨⟩ S:=(aR _).trans rfl
@[simp] theorem zLc(bef:List Nat)(os:List MO){g}:w_ P c (.regd bef os) Q g S=rD P os (λS' fps=>FC bef fps=true/\Q .normal S') ⟨⟩ S []:=(aR _).trans rfl
@[simp] theorem zLt(a b:MC){g}:w_ P c (.seq a b) Q g S=w_ P c a (yU (w_ P c b Q ⟨⟩) Q) ⟨⟩ S:=(aR _).trans rfl
@[simp] theorem zLd(k:Nat)(a b:MC){g}:w_ P c (.cond (.t k) a b) Q g S=(match S.get k with
 |.c (.d (.bool t))=>gd t true (w_ P c a Q ⟨⟩ (S.know k true)) (w_ P c b Q ⟨⟩ (S.know k false))
 |.c (.op q)=>Lm q/\w_ P c a Q ⟨⟩ S/\w_ P c b Q ⟨⟩ S
 |_=>False):=(aR _).trans rfl
@[simp] theorem zKD(i:Nat)(b:MC){g}:w_ P c (.block i b) Q g S=w_ P c b (Cg i Q) ⟨⟩ S:=(aR _).trans rfl
@[simp] theorem zLe(b:MC){g}:w_ P c (.loop b) Q g S=lU P c b Q ⟨⟩ S:=(aR _).trans rfl
@[simp] theorem zLf(i:Nat){g}:w_ P c (.exit i) Q g S=Q (.exit i) S:=(aR _).trans rfl
@[simp] theorem zLu(a:MC){g}:w_ P c (.fzq a) Q g S=I4 S (λS'=>w_ P c a Q ⟨⟩ S') ⟨⟩:=(aR _).trans rfl
@[simp] theorem zLv(a:MC){g}:w_ P c (.owq a) Q g S=I5 S (λS'=>w_ P c a Q ⟨⟩ S') ⟨⟩:=(aR _).trans rfl
@[simp] theorem zLw{g}:w_ P c .ret Q g S=Q .ret S:=(aR _).trans rfl
@[simp] theorem zLg(K:St->Prop){g}:rO P [] K g S=K S:=(aR _).trans rfl
@[simp] theorem zKE(d:Option Nat)(op:xD)(os:List MO)(K:St->Prop){g}:rO P (⟨none,d,op⟩::os) K g S=eV P (λv _ wr n=>rO P os K ⟨⟩ (S.put d v wr n)) op ⟨⟩ S.get S.m S.n:=(aR _).trans rfl
@[simp] theorem zKF(t:Nat)(want:Bool)(d:Option Nat)(op:xD)(os:List MO)(K:St->Prop){g}:rO P (⟨some (t,want),d,op⟩::os) K g S=(match S.get t with
  |.c (.d (.bool b))=>gd b want (rO P (⟨none,d,op⟩::os) K ⟨⟩ (S.know t want)) (rO P os K ⟨⟩ ((S.know t (!want)).put d uw [] S.n))
  |.c (.d (.sc (.tuple _)))=>rO P os K ⟨⟩ (S.put d uw [] S.n)
  |_=>False):=(aR _).trans rfl
@[simp] theorem zLh(fps:List FP)(K:St->List FP->Prop){g}:rD P [] K g S fps=K S fps.reverse:=(aR _).trans rfl
@[simp] theorem zKG(d:Option Nat)(op:xD)(os:List MO)(fps:List FP)(K:St->List FP->Prop){g}:rD P (⟨none,d,op⟩::os) K g S fps=eV P (λv rd wr n=>rD P os K ⟨⟩ (S.put d v wr n) ((rd,wr.map (·.1))::fps)) op ⟨⟩ S.get S.m S.n:=(aR _).trans rfl
@[simp] theorem zKH(t:Nat)(want:Bool)(d:Option Nat)(op:xD)(os:List MO)(fps:List FP)(K:St->List FP->Prop){g}:rD P (⟨some (t,want),d,op⟩::os) K g S fps=(match S.get t with
  |.c (.d (.bool b))=>gd b want (rD P (⟨none,d,op⟩::os) K ⟨⟩ (S.know t want) fps) (rD P os K ⟨⟩ ((S.know t (!want)).put d uw [] S.n) (([],[])::fps))
  |.c (.d (.sc (.tuple _)))=>rD P os K ⟨⟩ (S.put d uw [] S.n) (([],[])::fps)
  |_=>False):=(aR _).trans rfl
end
@[simp] theorem St.get_mk(t:List (Nat × AV))(m:Hp)(n k:Nat):St.get ⟨t,m,n⟩ k=look t k:=(aR _).trans rfl
@[simp] theorem St.get_eta(t:List (Nat × AV))(m:Hp)(n:Nat):St.get ⟨t,m,n⟩=look t:=(aR _).trans rfl
@[simp] theorem St.put_some(t:List (Nat × AV))(m:Hp)(n d:Nat)(v:AV)(wr:List (Nat × Blk))(n':Nat):St.put ⟨t,m,n⟩ (some d) v wr n'=⟨(d,v)::t,pG m wr,n'⟩:=(aR _).trans rfl
@[simp] theorem St.put_none(t:List (Nat × AV))(m:Hp)(n:Nat)(v:AV)(wr:List (Nat × Blk))(n':Nat):St.put ⟨t,m,n⟩ none v wr n'=⟨t,pG m wr,n'⟩:=(aR _).trans rfl
@[simp] theorem St.know_mk(t:List (Nat × AV))(m:Hp)(n k:Nat)(b:Bool):St.know ⟨t,m,n⟩ k b=⟨(k,.c (.d (.bool b)))::t,m,n⟩:=(aR _).trans rfl
@[simp] theorem look_nil(k:Nat):look [] k=.c (.d .any):=(aR _).trans rfl
@[simp] theorem sN(j k:Nat)(v:AV)(t:List (Nat × AV)):look ((j,v)::t) k=if k=j then v else look t k:=(aR _).trans rfl
@[simp] theorem X_t(get:Nat->AV)(k:Nat):X get (.t k)=get k:=(aR _).trans rfl
@[simp] theorem X_k(get:Nat->AV)(x:D):X get (.k x)=.c (.d x):=(aR _).trans rfl
@[simp] theorem zKI(m:Hp):pG m []=m:=(aR _).trans rfl
@[simp] theorem zJ8(m:Hp)(k:Nat)(v:Blk)(l:List (Nat × Blk)):pG m ((k,v)::l)=pG (upd m k v) l:=(aR _).trans rfl
@[simp] theorem AQ(m:Hp)(k:Nat)(v:Blk)(j:Nat):upd m k v j=if j=k then v else m j:=(aR _).trans rfl
@[simp↓] theorem zII (K:St->Prop) (Q:Exit->St->Prop) (S:St):yU K Q .normal S=K S:=(aR _).trans rfl
@[simp↓] theorem zJm (K:St->Prop) (Q:Exit->St->Prop) (i:Nat) (S:St):yU K Q (.exit i) S=Q (.exit i) S:=(aR _).trans rfl
@[simp↓] theorem zJR (K:St->Prop) (Q:Exit->St->Prop) (S:St):yU K Q .ret S=Q .ret S:=(aR _).trans rfl
@[simp↓] theorem zIw (i:Nat) (Q:Exit->St->Prop) (S:St):Cg i Q .normal S=Q .normal S:=(aR _).trans rfl
@[simp↓] theorem zJn (i:Nat) (Q:Exit->St->Prop) (S:St):Cg i Q .ret S=Q .ret S:=(aR _).trans rfl
@[simp↓] theorem zJe (i j:Nat) (Q:Exit->St->Prop) (S:St):Cg i Q (.exit j) S=if j=i then Q .normal S else Q (.exit j) S:=(aR _).trans rfl
@[simp] theorem zor:(undef:Value)=.tuple #[]:=rfl
attribute [simp] uM DV.av DV.avs AF yS jc vJ cellsD lS rV BR uw Er Es Et
attribute [simp] DV.er DV.ers splice
@[simp] theorem zJS(f:Nat->Nat):AC.rens f∘List.map AC.d=List.map AC.d:=by funext x;simp
@[simp] theorem zJ9(n:Nat):AC.lts n∘List.map AC.d=λ_=>true:=by funext x;simp
@[simp] theorem D.er_int(k:IntKind)(n:Int):(D.int k n).er=.int k n:=rfl
@[simp] theorem D.er_bool(b:Bool):(D.bool b).er=.bool b:=rfl
@[simp] theorem D.er_str(b:fI):(D.str b).er=.str b:=rfl
@[simp] theorem D.er_sl(x:Bool)(s:Nat)(es:List (List D)):(D.sl x s es).er=.sl false s es:=rfl
@[simp] theorem D.er_fn(f:Fn)(c:List D):(D.fn f c).er=.fn f c:=rfl
@[simp] theorem D.er_rp(cs:List D)(o:Nat):(D.rp cs o).er=.rp cs o:=rfl
@[simp] theorem D.er_sc(v:Value):(D.sc v).er=.sc v:=rfl
@[simp] theorem AC.one_d(d:D):(AC.d d).one=d.one:=rfl
@[simp] theorem AC.one_ptr(b o:Nat):(AC.ptr b o).one=true:=rfl
@[simp] theorem AC.one_ept(s b i o:Nat):(AC.ept s b i o).one=true:=rfl
@[simp] theorem AC.one_msl(s b o l:Nat):(AC.msl s b o l).one=true:=rfl
@[simp] theorem D.one_int(k:IntKind)(n:Int):(D.int k n).one=true:=rfl
@[simp] theorem D.one_bool(b:Bool):(D.bool b).one=true:=rfl
@[simp] theorem D.one_str(b:fI):(D.str b).one=true:=rfl
@[simp] theorem D.one_sl(x:Bool)(s:Nat)(es:List (List D)):(D.sl x s es).one=true:=rfl
@[simp] theorem D.one_fn(f:Fn)(c:List D):(D.fn f c).one=true:=rfl
@[simp] theorem D.one_rp(cs:List D)(o:Nat):(D.rp cs o).one=true:=rfl
@[simp] theorem zL0{α:Type}(cs:List α)(n:Nat)(h:cs.length=n):cut cs 0 n=cs:=by simp[cut,h]
@[simp] theorem zKJ{α:Type}(cs l:List α)(h:l.length=cs.length):put cs 0 l=l:=by simp[put,h]
@[simp] theorem zKa{α:Type}(c:α)(cs:List α)(o:Nat)(l:List α):put (c::cs) o l=if o=0/\l.length=(c::cs).length then l else splice (c::cs) o l:=(aR _).trans rfl
theorem wrap_i64{n:Int}(h1: -9223372036854775808<=n)(h2:n<=9223372036854775807):IntKind.i64.wrap n=n:=Kt (by simpa[IntKind.min,IntKind.bits,IntKind.signed]using h1) (by simpa[IntKind.max,IntKind.bits,IntKind.signed]using h2)
theorem wI{n:Int}(h1: -9223372036854775808<=n:=by omega)(h2:n<=9223372036854775807:=by omega):IntKind.i64.wrap n=n:=wrap_i64 h1 h2
@[simp] theorem zKb(n:Nat):hpOf [] n=.non:=by simp[hpOf]
@[simp] theorem Ci(b:Blk)(bs:List Blk):hpOf (b::bs) 0=b:=by simp[hpOf]
@[simp] theorem EH(b:Blk)(bs:List Blk)(n:Nat):hpOf (b::bs) (n+1)=hpOf bs n:=by simp[hpOf]
@[simp] theorem zLx(t:List (Nat × AV))(bs:List Blk):hd t bs=⟨t,hpOf bs,bs.length⟩:=(aR _).trans rfl
attribute [simp] iM yV vN jJ AV.ren AV.lt AC.ren AC.lt AC.rens AC.lts AV.rens AV.lts Blk.ren Blk.lt
attribute [simp] BQ one? frzV zL nH wO pI
def AR(ag:Bool)(sz:Nat)(cs:List D)(off:Nat)(K:AV->Prop)(_:Tag K):Prop:=Dx ag sz cs off K
def xF(ag:Bool)(sz:Nat)(cs:List AC)(off:Nat)(K:AV->Prop)(_:Tag K):Prop:=wN ag sz cs off K
def uN(get:Nat->AV)(d:Nat)(K:Nat->Prop)(_:Tag K)(o:Option MX):Prop:=bnd get d K o
def I6(get:Nat->AV)(m:Hp)(s:Nat)(K:List (List AC)->List Nat->Prop)(_:Tag K)(y:MX):Prop:=sZ get m s K y
def Lp(S:St)(K:AV->Prop)(_:Tag K)(r:MR):Prop:=AO S K r
def EI(S:St)(rs:List MR)(K:List AV->Prop)(_:Tag K):Prop:=BV S rs K
@[simp] theorem zLy(sz:Nat)(cs:List D)(off:Nat)(K:AV->Prop){g}:AR true sz cs off K g=(off+sz<=cs.length/\K (.ag ((cut cs off sz).map .d))):=(aR _).trans rfl
@[simp] theorem zLz(sz:Nat)(cs:List D)(off:Nat)(K:AV->Prop){g}:AR false sz cs off K g=(match cs[off]? with|some c=>K (.c (.d c))|none=>False):=(aR _).trans rfl
@[simp] theorem zLA(sz:Nat)(cs:List AC)(off:Nat)(K:AV->Prop){g}:xF true sz cs off K g=(off+sz<=cs.length/\K (.ag (cut cs off sz))):=(aR _).trans rfl
@[simp] theorem zLB(sz:Nat)(cs:List AC)(off:Nat)(K:AV->Prop){g}:xF false sz cs off K g=(match cs[off]? with|some c=>K (.c c)|none=>False):=(aR _).trans rfl
@[simp] theorem zKc(get:Nat->AV)(d:Nat)(K:Nat->Prop){g}:uN get d K g none=K d:=(aR _).trans rfl
@[simp] theorem zKd(get:Nat->AV)(d:Nat)(K:Nat->Prop){g}(x:MX):uN get d K g (some x)=(match X get x with|.c (.d (.int _ j))=>0<=j/\K j.toNat|_=>False):=(aR _).trans rfl
@[simp] theorem zKK(get:Nat->AV)(m:Hp)(s:Nat)(K:List (List AC)->List Nat->Prop){g}(y:MX):I6 get m s K g y=(match X get y with
|.c (.d (.sl _ s' ys))=>s=s'/\K (ys.map (·.map .d)) []
|.c (.msl s' b off len)=>match m b with
 |.arr s'' es=>s=s'/\s=s''/\off+len<=es.length/\K ((es.drop off).take len) [b]
 |_=>False
|_=>False):=(aR _).trans rfl
@[simp] theorem zKe(rs:List MR)(v:DV)(S:St):Ch rs v .ret S=EI S rs (λvs=>(frzV S.m (one? vs)).map DV.er=some v) ⟨⟩:=(aR _).trans rfl
@[simp] theorem zKf(S:St)(K:AV->Prop){g}(t:Nat):Lp S K g (.tmp t)=K (S.get t):=(aR _).trans rfl
@[simp] theorem zJT(S:St)(K:AV->Prop){g}(t:Nat)(ag:Bool)(sz:Nat):Lp S K g (.cell t ag sz)=(match S.get t with
 |.c (.d (.rp cs off))=>AR ag sz cs off K ⟨⟩
 |.c (.ptr b off)=>match S.m b with
  |.box cs=>xF ag sz cs off K ⟨⟩
  |_=>False
 |_=>False):=(aR _).trans rfl
@[simp] theorem zJU(S:St)(K:List AV->Prop){g}:EI S [] K g=K []:=(aR _).trans rfl
@[simp] theorem zJo(S:St)(r:MR)(rs:List MR)(K:List AV->Prop){g}:EI S (r::rs) K g=Lp S (λv=>EI S rs (λvs=>K (v::vs)) ⟨⟩) ⟨⟩ r:=(aR _).trans rfl
section
variable {P:Program} {get:Nat->AV} {m:Hp} {n:Nat} {K:AV->List Nat->List (Nat × Blk)->Nat->Prop}
@[simp] theorem zLC(x:MX){g}:eV P K (.mv x) g get m n=K (X get x) [] [] n:=(aR _).trans rfl
@[simp] theorem zKL(c a b:MX){g}:eV P K (.pick c a b) g get m n=match X get c with
 |.c (.d (.bool t))=>gd t true (K (X get a) [] [] n) (K (X get b) [] [] n)
 |_=>False:=(aR _).trans rfl
@[simp] theorem zKM(op:BinOp)(x:MX)(y:MX){g}:eV P K (.binI op x y) g get m n=(match X get x,X get y with
 |.c (.d (.int k a)),.c (.d (.int k' b))=>k=k'/\(match Er op k a b with|some d=>K (.c (.d d)) [] [] n|none=>False)
 |_,_=>False):=(aR _).trans rfl
@[simp] theorem zKN(op:BinOp)(x:MX)(y:MX){g}:eV P K (.divI op x y) g get m n=(match X get x,X get y with
 |.c (.d (.int k a)),.c (.d (.int k' b))=>k=k'/\b≠0/\(match(generalizing:=false) op with|.quo=>K (.c (.d (.int k (k.wrap (a.tdiv b))))) [] [] n|.rem=>K (.c (.d (.int k (a.tmod b)))) [] [] n|_=>False)
 |_,_=>False):=(aR _).trans rfl
@[simp] theorem zKO(op:BinOp)(x:MX)(y:MX){g}:eV P K (.binS op x y) g get m n=(match X get x,X get y with
 |.c (.d (.str a)),.c (.d (.str b))=>(match Es op a b with|some d=>K (.c (.d d)) [] [] n|none=>False)
 |_,_=>False):=(aR _).trans rfl
@[simp] theorem zLi(x:MX)(y:MX){g}:eV P K (.cat x y) g get m n=(match X get x,X get y with
 |.c (.d (.str a)),.c (.d (.str b))=>a.size+b.size<=zah/\K (.c (.d (.str (a++b)))) [] [] n
 |_,_=>False):=(aR _).trans rfl
@[simp] theorem zKP(op:BinOp)(x:MX)(y:MX){g}:eV P K (.binB op x y) g get m n=(match X get x,X get y with
 |.c (.d (.bool a)),.c (.d (.bool b))=>(match Et op a b with|some d=>K (.c (.d d)) [] [] n|none=>False)
 |_,_=>False):=(aR _).trans rfl
@[simp] theorem zLj(x:MX){g}:eV P K (.not x) g get m n=(match X get x with
 |.c (.d (.bool a))=>K (.c (.d (.bool (!a)))) [] [] n
 |_=>False):=(aR _).trans rfl
@[simp] theorem zKg(k:IntKind)(x:MX){g}:eV P K (.convI k x) g get m n=(match X get x with
 |.c (.d (.int _ a))=>K (.c (.d (.int k (k.wrap a)))) [] [] n
 |_=>False):=(aR _).trans rfl
@[simp] theorem zKQ(x:MX){g}:eV P K (.boxP x) g get m n=(match cellsD (X get x)with
 |some ds=>K (.c (.d (.rp ds 0))) [] [] n
 |none=>False):=(aR _).trans rfl
@[simp] theorem zKR(x:MX){g}:eV P K (.boxM x) g get m n=(match vJ (X get x)with
 |some cs=>m n=.non/\K (.c (.ptr n 0)) [] [(n,.box cs)] (n+1)
 |none=>False):=(aR _).trans rfl
@[simp] theorem zKh(z:List D){g}:eV P K (.alloc z) g get m n=(m n=.non/\K (.c (.ptr n 0)) [] [(n,.box (z.map .d))] (n+1)):=(aR _).trans rfl
@[simp] theorem zKi(z:List D)(ps:List (Nat × Nat × MX)){g}:eV P K (.build z ps) g get m n=(match BQ get (z.map .d) ps with
 |some cs=>K (.ag cs) [] [] n
 |none=>False):=(aR _).trans rfl
@[simp] theorem zJp(s:Nat)(xs:List MX){g}:eV P K (.buildSl s xs) g get m n=(match lS get s xs with
 |some es=>K (.c (.d (.sl true s es))) [] [] n
 |none=>False):=(aR _).trans rfl
@[simp] theorem zJf(s:Nat)(xs:List MX){g}:eV P K (.buildSlM s xs) g get m n=(match rV get s xs with
 |some es=>m n=.non/\K (.c (.msl s n 0 xs.length)) [] [(n,.arr s es)] (n+1)
 |none=>False):=(aR _).trans rfl
@[simp] theorem zKS(ag:Bool)(sz:Nat)(x:MX){g}:eV P K (.load ag sz x) g get m n=(match X get x with
 |.c (.d (.rp cs off))=>AR ag sz cs off (λv=>K v [] [] n) ⟨⟩
 |.c (.ptr b off)=>match m b with
  |.box cs=>xF ag sz cs off (λv=>K v [b] [] n) ⟨⟩
  |_=>False
 |.c (.ept s b i off)=>match m b with
  |.arr s' es=>s=s'/\(match es[i]? with|some e=>xF ag sz e off (λv=>K v [b] [] n) ⟨⟩|none=>False)
  |_=>False
 |_=>False):=(aR _).trans rfl
@[simp] theorem zKj(sz:Nat)(a:MX)(v:MX){g}:eV P K (.store sz a v) g get m n=(match X get a,vJ (X get v)with
 |.c (.ptr b off),some l=>match m b with
  |.box cs=>l.length=sz/\off+sz<=cs.length/\K (.c (.d .any)) [] [(b,.box (put cs off l))] n
  |_=>False
 |.c (.ept s b i off),some l=>match m b with
  |.arr s' es=>s=s'/\l.length=sz/\off+sz<=s/\(match es[i]? with|some e=>K (.c (.d .any)) [] [(b,.arr s (es.set i (put e off l)))] n|none=>False)
  |_=>False
 |_,_=>False):=(aR _).trans rfl
@[simp] theorem zKk(off:Nat)(x:MX){g}:eV P K (.faddr off x) g get m n=(match X get x with
 |.c (.ptr b o)=>K (.c (.ptr b (o+off))) [] [] n
 |.c (.ept s b i o)=>K (.c (.ept s b i (o+off))) [] [] n
 |.c (.d (.rp cs o))=>K (.c (.d (.rp cs (o+off)))) [] [] n
 |_=>False):=(aR _).trans rfl
@[simp] theorem zJV(s:Nat)(x:MX)(i:MX){g}:eV P K (.iaddrS s x i) g get m n=(match X get x,X get i with
 |.c (.d (.sl _ s' es)),.c (.d (.int _ j))=>s=s'/\0<=j/\(match es[j.toNat]? with|some e=>K (.c (.d (.rp e 0))) [] [] n|none=>False)
 |.c (.msl s' b off len),.c (.d (.int _ j))=>s=s'/\0<=j/\j<len/\K (.c (.ept s b (off+j.toNat) 0)) [] [] n
 |_,_=>False):=(aR _).trans rfl
@[simp] theorem zJW(len:Nat)(s:Nat)(x:MX)(i:MX){g}:eV P K (.iaddrA len s x i) g get m n=(match X get x,X get i with
 |.c (.ptr b o),.c (.d (.int _ j))=>0<=j/\j<len/\K (.c (.ptr b (o+j.toNat*s))) [] [] n
 |.c (.ept s' b i' o),.c (.d (.int _ j))=>0<=j/\j<len/\K (.c (.ept s' b i' (o+j.toNat*s))) [] [] n
 |.c (.d (.rp cs o)),.c (.d (.int _ j))=>0<=j/\j<len/\K (.c (.d (.rp cs (o+j.toNat*s)))) [] [] n
 |_,_=>False):=(aR _).trans rfl
@[simp] theorem zKT(ag:Bool)(len:Nat)(s:Nat)(x:MX)(i:MX){g}:eV P K (.idxA ag len s x i) g get m n=(match X get x,X get i with
 |.ag cs,.c (.d (.int _ j))=>0<=j/\j<len/\xF ag s cs (j.toNat*s) (λv=>K v [] [] n) ⟨⟩
 |_,_=>False):=(aR _).trans rfl
@[simp] theorem zKU(x:MX)(i:MX){g}:eV P K (.idxS x i) g get m n=(match X get x,X get i with
 |.c (.d (.str t)),.c (.d (.int _ j))=>0<=j/\(match t.data.toList[j.toNat]? with|some b=>K (.c (.d (.int .u8 b.toNat))) [] [] n|none=>False)
 |_,_=>False):=(aR _).trans rfl
@[simp] theorem zLk(x:MX){g}:eV P K (.len x) g get m n=(match X get x with
 |.c (.d (.sl _ _ es))=>K (.c (.d (.int .i64 es.length))) [] [] n
 |.c (.msl _ b off l)=>match m b with
  |.arr _ es=>off+l<=es.length/\K (.c (.d (.int .i64 l))) [b] [] n
  |_=>False
 |_=>False):=(aR _).trans rfl
@[simp] theorem zKV(x:MX){g}:eV P K (.lenS x) g get m n=(match X get x with
 |.c (.d (.str t))=>K (.c (.d (.int .i64 t.size))) [] [] n
 |_=>False):=(aR _).trans rfl
@[simp] theorem zKl(x:MX){g}:eV P K (.nilck x) g get m n=(match X get x with
 |.c (.ptr b o)=>K (.c (.ptr b o)) [] [] n
 |.c (.ept s b i o)=>K (.c (.ept s b i o)) [] [] n
 |.c (.d (.rp cs o))=>K (.c (.d (.rp cs o))) [] [] n
 |_=>False):=(aR _).trans rfl
@[simp] theorem zJq(x:MX)(i:Nat){g}:eV P K (.extract x i) g get m n=(match X get x with
 |.tup vs=>match vs[i]? with
  |some v=>K v [] [] n
  |none=>False
 |_=>False):=(aR _).trans rfl
@[simp] theorem zKm(s:Nat)(x:MX)(lo:Option MX)(hi:Option MX){g}:eV P K (.slice s x lo hi) g get m n=(match X get x with
 |.c (.d (.sl e s' es))=>s=s'/\uN get es.length (λh=>uN get 0 (λl=>l<=h/\h<=es.length/\K (.c (.d (.sl (e&&hi.isNone) s ((es.take h).drop l)))) [] [] n) ⟨⟩ lo) ⟨⟩ hi
 |.c (.msl s' b off len)=>s=s'/\uN get len (λh=>uN get 0 (λl=>l<=h/\h<=len/\K (.c (.msl s b (off+l) (h-l))) [] [] n) ⟨⟩ lo) ⟨⟩ hi
 |_=>False):=(aR _).trans rfl
@[simp] theorem zJX(x:MX)(lo:Option MX)(hi:Option MX){g}:eV P K (.sliceS x lo hi) g get m n=(match X get x with
 |.c (.d (.str t))=>uN get t.size (λh=>uN get 0 (λl=>l<=h/\h<=t.size/\K (.c (.d (.str (t.extract l h)))) [] [] n) ⟨⟩ lo) ⟨⟩ hi
 |_=>False):=(aR _).trans rfl
@[simp] theorem zJY(s:Nat)(bytes:Nat)(x:MX)(y:MX){g}:eV P K (.append s bytes x y) g get m n=(match X get x with
 |.c (.msl s' b off len)=>match m b with
  | .arr s'' es=>s=s'/\s=s''/\off=0/\len<=es.length/\m n=.non/\I6 get m s (λys rd=>(len+ys.length)*bytes<=70368744177664/\(rd=[]\/rd=[b]\/b∉rd)/\
    K (.c (.msl s n 0 (len+ys.length))) rd [(b,.dead),(n,.arr s (es.take len++ys))] (n+1)) ⟨⟩ y
  |_=>False
 |.c (.d (.sl true s' []))=>m n=.non/\I6 get m s (λys rd=>ys.length*bytes<=70368744177664/\K (.c (.msl s n 0 ys.length)) rd [(n,.arr s ys)] (n+1)) ⟨⟩ y
 |.c (.d (.sl true s' (e::es)))=>s=s'/\m n=.non/\I6 get m s (λys rd=>(ys=[]->K (.c (.d (.sl true s (e::es)))) rd [] (n+1))/\(ys≠[]->((e::es).length+ys.length)*bytes<=70368744177664/\K (.c (.msl s n 0 ((e::es).length+ys.length))) rd [(n,.arr s ((e::es).map (·.map .d)++ys))] (n+1))) ⟨⟩ y
 |_=>False):=(aR _).trans rfl
@[simp] theorem zKW(f:FuncId)(caps:List MX){g}:eV P K (.mkfn f caps) g get m n=(match BR get caps with
 |some cs=>match jc cs with
  |some ds=>K (.c (.d (.fn (.func f) ds))) [] [] n
  |none=>K (.c (.fn (.func f) cs)) [] [] n
 |none=>False):=(aR _).trans rfl
@[simp] theorem zKX(f:FuncId)(xs:List MX){g}:eV P K (.call f xs) g get m n=(match yS (xs.map (X get))with
 |some ds=>FF P f ds (λv=>K v.av [] [] n) ⟨⟩
 |none=>False):=(aR _).trans rfl
@[simp] theorem zKn(x:MX)(xs:List MX){g}:eV P K (.calld x xs) g get m n=(match X get x,yS (xs.map (X get))with
 |.c (.d (.fn (.func f) caps)),some ds=>FF P f (ds++caps.map .one) (λv=>K v.av [] [] n) ⟨⟩
 |_,_=>False):=(aR _).trans rfl
@[simp] theorem zKY(mx:Bool)(x y:MX){g}:eV P K (.minI mx x y) g get m n=(match X get x,X get y with
 |.c (.d (.int k a)),.c (.d (.int k' b))=>k=k'/\K (.c (.d (.int k (wL mx a b)))) [] [] n
 |_,_=>False):=(aR _).trans rfl
@[simp] theorem zJZ(ne:Bool)(x:MX){g}:eV P K (.isNilP ne x) g get m n=(match X get x with
 |.c (.d (.sc (.pointer none)))=>K (.c (.d (.bool !ne))) [] [] n
 |.c (.d (.rp _ _))=>K (.c (.d (.bool ne))) [] [] n
 |_=>False):=(aR _).trans rfl
@[simp] theorem zKo(ne:Bool)(x:MX){g}:eV P K (.isNil ne x) g get m n=(match X get x with
 |.c (.d (.sl _ _ (_::_)))=>K (.c (.d (.bool ne))) [] [] n
 |.c (.d (.sl _ _ []))=>K (.c (.op Dw)) [] [] n
 |_=>False):=(aR _).trans rfl
@[simp] theorem zKZ(f:FuncId)(x:MX)(y:MX){g}:eV P K (.cmpS f x y) g get m n=(match X get x,X get y with
 |.c (.d (.str a)),.c (.d (.str b))=>K (.c (.d (.int .i64 (Lib.compareBytes a.data.toList b.data.toList)))) [] [] n
 |_,_=>False):=(aR _).trans rfl
@[simp] theorem zKp{g}:eV P K (.mkmap) g get m n=(m n=.non/\K (.c (.map n)) [] [(n,.map [])] (n+1)):=(aR _).trans rfl
@[simp] theorem zKq(kk:Nat)(ok ag:Bool)(z:List D)(x k:MX){g}:eV P K (.mlook kk ok ag z x k) g get m n=(match X get x,X get k with
 | .c (.map b),.c (.d d)=>match m b with
  |.map es=>match kN kk d es 0 with
   |some (some (_,v))=>K (if ok then .tup [v,.c (.d (.bool true))]else v) [b] [] n
   |some none=>K (if ok then .tup [rU ag z,.c (.d (.bool false))]else rU ag z) [b] [] n
   |none=>False
  |_=>False
 |_,_=>False):=(aR _).trans rfl
@[simp] theorem zK0(kk:Nat)(x k v:MX){g}:eV P K (.mset kk x k v) g get m n=(match X get x,X get k with
 | .c (.map b),.c (.d d)=>match m b with
  |.map es=>match kN kk d es 0 with
   |some (some (i,_))=>K (.c (.d .any)) [] [(b,.map (es.set i (d,X get v)))] n
   |some none=>K (.c (.d .any)) [] [(b,.map (es++[(d,X get v)]))] n
   |none=>False
  |_=>False
 |_,_=>False):=(aR _).trans rfl
@[simp] theorem zKr(z:List D)(bytes:Nat)(x y:MX){g}:eV P K (.mkslM z bytes x y) g get m n=(match X get x,X get y with
 |.c (.d (.int .i64 j)),.c (.d (.int .i64 l))=>0<=j/\j<=l/\l*bytes<=70368744177664/\m n=.non/\K (.c (.msl z.length n 0 j.toNat)) [] [(n,.arr z.length ((List.replicate j.toNat z).map (·.map .d)))] (n+1)
 |_,_=>False):=(aR _).trans rfl
@[simp] theorem zK1(ne:Bool)(ks:List Nat)(x y:MX){g}:eV P K (.eqAg ne ks x y) g get m n=(match X get x,X get y with
 | .ag cs,.ag cs'=>match jc cs,jc cs' with
  |some a,some b=>match zJ ks a b with
   |some t=>K (.c (.d (.bool (t^^ne)))) [] [] n
   |none=>False
  |_,_=>False
 |_,_=>False):=(aR _).trans rfl
end
attribute [simp] kN C8 rU zJ
abbrev fJ:=@Next.mk
abbrev fU:=@W.loop
abbrev fe:=@I4.mk
abbrev fo:=@I5.mk
abbrev gT:=@gd.mk
abbrev gp:=@FF.mk
end Go.Abs
namespace Go.Abs
mutual
def o7(P:Program):Nat->TypeId->List D->Prop
|0,_,_=>False
|n+1,t,ds=>match P.underlying t with
 |some .bool=>∃b,ds=[.bool b]
 |some (.int k)=>∃i,ds=[.int k i]
 |some .string=>∃s,ds=[.str s]
 |some (.slice e)=>∃es,ds=[.sl false (P.cellsOf e) es]/\∀x,x∈es->o7 P n e x
 |some (.struct fs)=>yX P n (fs.toList.map (·.type)) ds
 |_=>False
def yX(P:Program):Nat->List TypeId->List D->Prop
|_,[],ds=>ds=[]
|n,t::ts,ds=>∃a b,ds=a++b/\o7 P n t a/\yX P n ts b
end
def uO(P:Program)(tot:Nat):Nat->List Field->Bool
|o,[]=>o==tot
|o,f::r=>f.offset==o&&uO P tot (o+P.cellsOf f.type) r
def nJ(P:Program)(S:List TypeId)(t:TypeId):Bool:=match P.underlying t with
|some .bool|some (.int _)|some .string=>true
|some (.slice e)=>S.contains e&&decide (0<P.cellsOf e)&&decide (0<P.bytesOf e)
|some (.struct fs)=>uO P (P.cellsOf t) 0 fs.toList&&fs.toList.all λf=>S.contains f.type
|_=>false
theorem RepE.of_get{h:PH}{s:Nat}:∀{es:List (List D)} {vs:List Value},(∀i e,es[i]?=some e->e.length=s/\RepL h e (vs.drop (i*s)))->RepE h s es vs
|[],vs,_=>by simp[RepE]
|e::es,vs,H=>by
 simp only[RepE];have h0:=H 0 e rfl;refine⟨h0.1,by simpa using h0.2,RepE.of_get λi e' he=>?_⟩;have:=H (i+1) e' (by simpa using he);rw[bO,show s+i*s=(i+1)*s by rw[bC];omega];exact this
section
variable {H:Type} {enc:TypeId × Value->H} {P:Program} {w:World} {held:Bool}
theorem mapM_cells{B:Nat}{c:Array Value}{ty:TypeId}{fr:Nat × Nat}(hB:w.heap[B]?=some (.cells c ty fr)):∀(n k o:Nat) (cs:List Value),((List.range' k n).mapM λi=>w.cell? ⟨B,o+i,none⟩)=some cs->cs=(c.toList.drop (o+k)).take n/\cs.length=n
|0,k,o,cs,h=>by simp at h;subst h;simp
| n+1,k,o,cs,h=>by
 rw[dY,List.mapM_cons]at h;have hc:w.cell? ⟨B,o+k,none⟩=c[o+k]?:=by simp[World.cell?,hB]
 rw[hc]at h;cases e:c[o+k]? with
 |none=>simp[e]at h
 | some v=>
  simp only[e,Option.pure_def,Option.bind_eq_bind,Option.bind_some,dK]at h;obtain⟨r,hr,hcs⟩:=h;cases hcs;obtain⟨h1,h2⟩:=mapM_cells hB n (k+1) o r hr;have hk:o+k<c.toList.length:=by
   rcases aW (o+k) c.size with h|h
   ·simpa using h
   ·rw[aj h]at e;cases e
  rw[aF hk];refine⟨?_,by simp[h2]⟩;rw[List.take_succ_cons,h1,show o+(k+1)=o+k+1 by omega];congr 1;have:=bJ (xs:=c) (i:=o+k) (by simpa using hk);rw[this]at e;simp at e;simp[e]
theorem Lr{base:Nat}{a:Addr}{s:Nat}{cs:List Value}(hs:0<s)(h:w.cells? base a s=some cs):a.spot=none/\cs=((hcells (λB=>w.heap[B]?) a.block).drop a.off).take s/\cs.length=s:=by
 unfold World.cells? at h;split at h
 ·obtain⟨B,o,sp⟩:=a;have hsp:sp=none:=by
   cases sp with
   |none=>rfl
   | some z=>
    exfalso;cases s with
    |zero=>cases hs
    | succ s=>
     rw[dI,dY,List.mapM_cons]at h;have:w.cell? (Addr.add ⟨B,o,some z⟩ 0)=none:=by
      unfold World.cell? Addr.add;simp;cases w.heap[B]? with
      |none=>rfl
      |some ob=>cases ob<;>rfl
     rw[this]at h;simp at h
  subst hsp;refine⟨rfl,?_⟩;simp only[addr_add]at h;simp only[hcells];cases e:w.heap[B]? with
  | none=>
   exfalso;cases s with
   |zero=>cases hs
   |succ s=>
    rw[dI,dY,List.mapM_cons]at h;simp[World.cell?,e]at h
  | some ob=>
   cases ob with
   |cells c ty fr=>
    rw[dI]at h;have:=mapM_cells e s 0 o cs h;rw[Nat.add_zero]at this;exact this
   | _=>
    exfalso;cases s with
    |zero=>cases hs
    |succ s=>
     rw[dI,dY,List.mapM_cons]at h;simp[World.cell?,e]at h
 ·cases h
theorem RepL.of_take{h:PH}{ds:List D}{vs:List Value}{n:Nat}(r:RepL h ds (vs.take n)):RepL h ds vs:=by
 have:=RepL.mono (fu h) ds _ (vs.drop n) r;simpa using this
theorem Sj{e:TypeId}:∀{l:List (DataW H)} {d:DataW H},d∈l->∀n,n∈d.weights P e->n∈DataW.weightsAll P e l
|x::l,d,h,n,hn=>by
 simp only[DataW.weightsAll,aM];cases aN.1 h with
 |inl h=>subst h;exact Or.inl hn
 |inr h=>exact Or.inr (Sj h n hn)
theorem Sk:reachBytes<=zah:=by decide
theorem zDY {S:List TypeId} (hS:∀t,t∈S->nJ P S t=true):∀(fuel:Nat) (t:TypeId) (cs:List Value) (d:DataW H) (ps:List MemPlace),t∈S->
  DataW.trod enc P w 0 (λ_=>true) true fuel t cs=some (d,ps)->(∀n,n∈d.weights P t->n<=reachBytes)->
  ∃ds,o7 P fuel t ds/\RepL (λB=>w.heap[B]?) ds cs/\ds.length=cs.length:=by
 intro fuel
 induction fuel with
 |zero=>intro t cs d ps _ h;simp[DataW.trod]at h
 |succ fuel ih=>
 intro t cs d ps ht h hw;have hg:=hS t ht;unfold nJ at hg;split at hg
 ·rename_i hu;obtain⟨b,rfl,_⟩:=DataW.trod_bool hu h;exact⟨[.bool b],by unfold o7;rw[hu];exact⟨b,rfl⟩,by simp[RepL,RepD,Value.one1],rfl⟩
 ·rename_i k hu;obtain⟨n,rfl,_,hwf⟩:=DataW.trod_int hu h;refine⟨[.int k n],by unfold o7;rw[hu];exact⟨n,rfl⟩,?_,rfl⟩;simp only[Lit.wf,aG,aI]at hwf;simp[RepL,RepD,Value.one1,hwf]
 ·rename_i hu;obtain⟨s,rfl,hx,_⟩:=DataW.trod_string hu h;refine⟨[.str s],by unfold o7;rw[hu];exact⟨s,rfl⟩,?_,rfl⟩;simp only[bV]at hx;rw[hx.1]at hw;have h1:=hw s.data.toList.length (by unfold DataW.weights;exact aK.2 rfl);have e:s.size=s.data.toList.length:=(cz ..).symm;have h2:=Sk;refine⟨⟨rfl,?_⟩,trivial⟩;unfold RepD;exact⟨rfl,e▸ak h1 h2⟩
 ·rename_i e hu;simp only[aG,aI,dR]at hg;obtain⟨⟨he,hc⟩,hb⟩:=hg;rcases DataW.trod_slice hu h with⟨rfl,_⟩|⟨a,len,cap,elems,rest,n,hn,rfl,hx,_,hlc,hcm,hlen,hel,hsp,_⟩
  ·refine⟨[.sl false (P.cellsOf e) []],by unfold o7;rw[hu];exact⟨[],rfl,by simp⟩,?_,rfl⟩;refine⟨⟨rfl,?_⟩,trivial⟩;unfold RepD;exact⟨none,0,rfl,aQ _,λh=>(by cases h),dL _,λ_=>⟨rfl,rfl⟩,λp hp=>(by cases hp),(by simp[RepE])⟩
  ·simp only[Nat.add_right_cancel_iff]at hn;subst hn;simp only[bV]at hx;have hw0:∀x,x∈elems.map (·.1)->∀m,m∈x.weights P e->m<=reachBytes:=λx hx' m hm=>hw m (by
    rw[hx.1];simp only[DataW.weights,hu]
    exact List.mem_cons_of_mem _ (List.mem_append_left _ (Sj hx' m hm)))
   have hcap:(elems.length+rest.length)*P.bytesOf e<=reachBytes:=hw _ (by rw[hx.1];simp only[DataW.weights,hu];simp);have hcap':elems.length+rest.length<=reachBytes:=ak (Nat.le_mul_of_pos_right _ hb) hcap;have key:∀i,i<len->∃ds,o7 P fuel e ds/\ds.length=P.cellsOf e/\a.spot=none/\RepL (λB=>w.heap[B]?) ds ((hcells (λB=>w.heap[B]?) a.block).drop (a.off+i*P.cellsOf e)):=by
    intro i hi;have h1:=hel i hi;have hil:i<elems.length:=by omega
    rw[aA hil]at h1;obtain⟨cs',hcs,htr⟩:=dK.1 h1;obtain⟨ds,s1,s2,s3⟩:=ih e cs' elems[i].1 elems[i].2 he htr (hw0 _ (fD (aP hil)));obtain⟨g1,g2,g3⟩:=Lr hc hcs;have g4:(a.add (i*P.cellsOf e)).block=a.block:=by unfold Addr.add;split<;>rfl
    have g5:(a.add (i*P.cellsOf e)).off=a.off+i*P.cellsOf e:=by unfold Addr.add;split<;>simp_all
    rw[g4,g5]at g2;refine⟨ds,s1,by omega,?_,RepL.of_take (g2▸s2)⟩
    -- the first element's reading says that the place is plain
    have h0:=hel 0 (by omega);rw[aA (show 0<elems.length by omega)]at h0;obtain⟨cs0,hcs0,_⟩:=dK.1 h0;have:=(Lr hc hcs0).1;simpa[Addr.add]using this
   have hspot:0<cap->a.spot=none:=by
    intro hcap;rcases aW 0 len with hl|hl
    ·obtain⟨_,_,_,h3,_⟩:=key 0 hl;exact h3
    ·have hl0:len=0:=by omega
     have:=(hsp rfl).2 0 (by omega);rw[aA (show 0<rest.length by have:=(hsp rfl).1;omega)]at this;obtain⟨cs0,hcs0,_⟩:=dK.1 this;have:=(Lr hc hcs0).1;simpa[Addr.add,hl0]using this
   have pick:∃es:List (List D),es.length=len/\∀i x,es[i]?=some x->o7 P fuel e x/\x.length=P.cellsOf e/\RepL (λB=>w.heap[B]?) x ((hcells (λB=>w.heap[B]?) a.block).drop (a.off+i*P.cellsOf e)):=by
    have:∀m,m<=len->∃es:List (List D),es.length=m/\∀i x,es[i]?=some x->o7 P fuel e x/\x.length=P.cellsOf e/\RepL (λB=>w.heap[B]?) x ((hcells (λB=>w.heap[B]?) a.block).drop (a.off+i*P.cellsOf e)):=by
     intro m
     induction m with
     |zero=>intro _;exact⟨[],rfl,by simp⟩
     | succ m ihm=>
      intro hm;obtain⟨es,hes,hall⟩:=ihm (by omega);obtain⟨ds,d1,d2,d3,d4⟩:=key m (by omega);refine⟨es++[ds],by simp[hes],λi x hx=>?_⟩;rw[List.getElem?_append]at hx;split at hx
      ·exact hall i x hx
      ·have:i=m:=by
        rcases aW (i-es.length) 1 with h|h
        ·omega
        ·rw[aS (by simpa using h)]at hx;cases hx
       subst this;simp[hes]at hx;subst hx;exact⟨d1,d2,d4⟩
    exact this len (aQ _)
   obtain⟨es,hes,hall⟩:=pick;refine⟨[.sl false (P.cellsOf e) es],?_,?_,rfl⟩
   ·unfold o7;rw[hu];refine⟨es,rfl,λx hx=>?_⟩;obtain⟨i,hi,rfl⟩:=bW hx;exact(hall i _ (aA hi)).1
   ·have:=Sk;simp only[RepL,RepD,Value.one1,and_true,true_and];refine⟨some a,cap,by rw[hes],by omega,by simp,by omega,by simp,λp hp hcap=>by cases hp;exact hspot hcap,?_⟩;refine RepE.of_get λi x hx=>?_;obtain⟨_,h2,h3⟩:=hall i x hx;refine⟨h2,?_⟩;simp only[cellsAt];rw[bO];exact h3
 ·rename_i fs hu;simp only[aG,ah,dR]at hg;obtain⟨hlay,hmem⟩:=hg;obtain⟨xs,n,hn,hx,hl,hxl,hf⟩:=DataW.trod_struct hu h;simp only[Nat.add_right_cancel_iff]at hn;subst hn;simp only[bV]at hx;have hw1:∀(i:Nat) (f:Field) y,fs[i]?=some f->xs[i]?=some y->∀m,m∈y.1.weights P f.type->m<=reachBytes:=λi f y hfi hyi m hm=>hw m (by
   rw[hx.1];simp only[DataW.weights,hu]
   exact DataW.weights_mem_each (j:=i) (t:=f.type) (d:=y.1) (by simp[hfi]) (by simp[hyi]) m hm)
  have key:∀(l:List Field) (k o:Nat),fs.toList.drop k=l->uO P (P.cellsOf t) o l=true->o<=cs.length->∃ds,yX P fuel (l.map (·.type)) ds/\RepL (λB=>w.heap[B]?) ds (cs.drop o)/\ds.length=cs.length-o:=by
   intro l
   induction l with
   |nil=>
    intro k o _ hlay ho;simp only[uO,aY]at hlay;exact⟨[],by simp[yX],by simp[RepL],by simp;omega⟩
   | cons f l ihl=>
    intro k o hk hlay ho;simp only[uO,aG,aY]at hlay;have hkf:fs[k]?=some f:=by
     have:(fs.toList.drop k)[0]?=some f:=by rw[hk];rfl
     simpa using this
    have hfk:=hf k f hkf;have hks:k<xs.length:=by
     rw[hxl];rcases aW k fs.size with h|h
     ·exact h
     ·rw[aj h]at hkf;cases hkf
    rw[aA hks,hlay.1]at hfk;have hfm:f∈fs.toList:=List.mem_of_mem_drop (i:=k) (by rw[hk];simp);obtain⟨a,s1,s2,s3⟩:=ih f.type _ xs[k].1 xs[k].2 (hmem f hfm) hfk (hw1 k f xs[k] hkf (aA hks));have hle:∀(l:List Field) (o:Nat),uO P (P.cellsOf t) o l=true->o<=P.cellsOf t:=by
     intro l
     induction l with
     |nil=>intro o h;simp[uO]at h;omega
     |cons f l ih=>intro o h;simp[uO]at h;have:=ih _ h.2;omega
    have ho2:=hle _ _ hlay.2;obtain⟨b,t1,t2,t3⟩:=ihl (k+1) (o+P.cellsOf f.type) (by rw[<-bO,hk];rfl) hlay.2 (by omega);have hal:a.length=P.cellsOf f.type:=by rw[s3];simp;omega
    refine⟨a++b,(by simp only[List.map_cons,yX];exact⟨a,b,rfl,s1,t1⟩),?_,by simp[hal,t3];omega⟩;have e:cs.drop o=(cs.drop o).take (P.cellsOf f.type)++cs.drop (o+P.cellsOf f.type):=by
     rw[<-bO,dC]
    rw[e];exact RepL.append s2 (by rw[s3]) t2
  obtain⟨ds,d1,d2,d3⟩:=key fs.toList 0 0 rfl hlay (by omega);exact⟨ds,by unfold o7;rw[hu];exact d1,by simpa using d2,by simpa using d3⟩
 ·cases hg
def isAgg(P:Program)(t:TypeId):Bool:=match P.underlying t with
|some (.struct _)=>true
|_=>false
def uP(ag:Bool)(ds:List D):DV:=match ag with
|true=>.agg ds
|false=>.one (ds.headD .any)
def EJ(P:Program):List TypeId->List DV->Prop
|[],vs=>vs=[]
|_::_,[]=>False
|t::ts,v::vs=>(∃n ds,o7 P n t ds/\v=uP (isAgg P t) ds)/\EJ P ts vs
theorem zIg{S:List TypeId}(hS:∀t,t∈S->nJ P S t=true){base:Nat}{t:TypeId}{v:Value}{d:DataW H}{ps:List MemPlace}(ht:t∈S)(hval:Value.okWide P w .any base t v)
  (h:DataW.Trod enc P w 0 (λ_=>true) true t v d ps) (hw:∀n,n∈d.weights P t->n<=reachBytes):
  ∃n ds,o7 P n t ds/\kR (λB=>w.heap[B]?) (uP (isAgg P t) ds) v:=by
 obtain⟨fuel,h⟩:=h;obtain⟨ds,h1,h2,h3⟩:=zDY hS fuel t _ d ps ht h hw;refine⟨fuel,ds,h1,?_⟩;unfold isAgg;unfold Value.okWide at hval;have hg:=hS t ht;unfold nJ at hg;have one:∀u:Value,u=v->u.cells.toList=[u]->kR (λB=>w.heap[B]?) (uP false ds) v:=by
  intro u hu hc;subst hu;rw[hc]at h2 h3
  match ds,h3 with
  |[x],_=>simp only[uP,List.headD_cons,kR];simp only[RepL]at h2;exact h2.1.2
 have cell:∀{td:TypeDesc},P.underlying t=some td->Cell.okWide P w .any base t v->(∀fs,td≠.struct fs)->(∀n e,td≠.array n e)->v.cells.toList=[v]:=by
  intro td hu hc h1 h2;unfold Cell.okWide Cell.ok at hc;rw[hu]at hc;cases v<;>first|rfl|(exfalso;revert hc;cases td<;>simp)
 split at hg
 ·rename_i hu;rw[hu]at hval⊢;exact one v rfl (cell hu hval (by simp) (by simp))
 ·rename_i hu;rw[hu]at hval⊢;exact one v rfl (cell hu hval (by simp) (by simp))
 ·rename_i hu;rw[hu]at hval⊢;exact one v rfl (cell hu hval (by simp) (by simp))
 ·rename_i hu;rw[hu]at hval⊢;exact one v rfl (cell hu hval (by simp) (by simp))
 ·rename_i hu;rw[hu]at hval⊢;simp only at hval⊢;obtain⟨cs,rfl,_,_⟩:=hval;simp only[uP,kR];refine⟨cs.toList,by simp,?_,h2⟩;rw[h3];rfl
 ·cases hg
theorem Sl{S:List TypeId}(hS:∀t,t∈S->nJ P S t=true){base:Nat}:∀{ts:List TypeId} {vs:List Value} {ds:List (DataW H)} {ps:List MemPlace},(∀t,t∈ts->t∈S)->
 (∀(j:Nat) t v,ts[j]?=some t->vs[j]?=some v->Value.okWide P w .any base t v)->DataW.TrodAll enc P w 0 (λ_=>true) true ts vs ds ps->(∀n,n∈DataW.weightsEach P ts ds->n<=reachBytes)->
 ∃dvs,EJ P ts dvs/\ji (λB=>w.heap[B]?) dvs vs
|[],[],[],_,_,_,_,_=>⟨[],rfl,by simp[ji]⟩
|t::ts,v::vs,d::ds,ps,ht,hval,h,hw=>by
 obtain⟨p,q,h1,h2,_⟩:=h;obtain⟨n,e,a1,a2⟩:=zIg hS (ht t (by simp)) (hval 0 t v rfl rfl) h1 (λn hn=>hw n (by simp[DataW.weightsEach,hn]));obtain⟨dvs,b1,b2⟩:=Sl hS (λu hu=>ht u (by simp[hu])) (λj u x hu hx=>hval (j+1) u x (by simpa using hu) (by simpa using hx)) h2 (λn hn=>hw n (by simp[DataW.weightsEach,hn]));exact⟨uP (isAgg P t) e::dvs,⟨⟨n,e,a1,rfl⟩,b1⟩,by simp only[ji];exact⟨a2,b2⟩⟩
theorem Sm(hl:laidOutB P=true){W W':World}(hb:Go.RowKit.Below W.heap.size W W'):∀{ts:List TypeId} {vs:List Value} {ds:List (DataW H)} {ps:List MemPlace},(∀t,t∈ts->P.readableRec t=true/\t<P.types.size)->
 DataW.TrodAll enc P W 0 (λ_=>true) true ts vs ds ps->(∀x,x∈ps->x.block<W.heap.size)->DataW.TrodAll enc P W' 0 (λb=>decide (b<W.heap.size)) true ts vs ds ps
|[],[],[],_,_,h,_=>h
|t::ts,v::vs,d::ds,ps,hr,h,hlt=>by
 obtain⟨p,q,h1,h2,rfl⟩:=h;have hrt:=hr t (by simp);exact⟨p,q,Go.RowKit.Below.trod hl hrt.1 hrt.2 h1 hb (λx hx=>hlt x (by simp[hx])),Sm hl hb (λu hu=>hr u (by simp[hu])) h2 (λx hx=>hlt x (by simp[hx])),rfl⟩
end
section
variable {P:Program} {n:Nat} {t:TypeId} {ds:List D}
theorem zLX(hu:P.underlying t=some .bool)(h:o7 P n t ds):∃i,ds=[.bool i]:=by
 cases n with
 |zero=>exact(by unfold o7 at h;exact h:False).elim
 |succ n=>unfold o7 at h;rw[hu]at h;exact h
theorem Sn(hu:P.underlying t=some .string)(h:o7 P n t ds):∃i,ds=[.str i]:=by
 cases n with
 |zero=>exact(by unfold o7 at h;exact h:False).elim
 |succ n=>unfold o7 at h;rw[hu]at h;exact h
theorem zBw{fs:Array Field}(hu:P.underlying t=some (.struct fs))(h:o7 P n t ds):∃m,n=m+1/\yX P m (fs.toList.map (·.type)) ds:=by
 cases n with
 |zero=>exact(by unfold o7 at h;exact h:False).elim
 |succ n=>unfold o7 at h;rw[hu]at h;exact⟨n,rfl,h⟩
theorem zFs(h:yX P n [] ds):ds=[]:=by unfold yX at h;exact h
theorem Sq{ts:List TypeId}(h:yX P n (t::ts) ds):∃a b,ds=a++b/\o7 P n t a/\yX P n ts b:=by unfold yX at h;exact h
theorem zG4{α:Type}{enc:α->List D}{es:List (List D)}(h:∀x,x∈es->∃a,x=enc a):∃l:List α,es=l.map enc:=by
 induction es with
 |nil=>exact⟨[],rfl⟩
 |cons e es ih=>
  obtain⟨a,ha⟩:=h e (by simp);obtain⟨l,hl⟩:=ih (λx hx=>h x (by simp[hx]));exact⟨a::l,by simp[ha,hl]⟩
theorem zCn{e:TypeId}{s:Nat}{α:Type}{enc:α->List D}(hu:P.underlying t=some (.slice e))(hs:P.cellsOf e=s)(he:∀m,m<n->∀x,o7 P m e x->∃a,x=enc a)(h:o7 P n t ds):∃l:List α,ds=[.sl false s (l.map enc)]:=by
 cases n with
 |zero=>exact(by unfold o7 at h;exact h:False).elim
 |succ n=>
  unfold o7 at h;rw[hu]at h;obtain⟨es,h1,h2⟩:=h;obtain⟨l,hl⟩:=zG4 (enc:=enc) (λx hx=>he n (by omega) x (h2 x hx));exact⟨l,by rw[h1,hs,hl]⟩
end
end Go.Abs
