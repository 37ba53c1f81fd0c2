/- Texts of ours, joined and written short by a program of ours. -/
import Derived.Test.YtnefbdgcccgodaaGreatJ04
set_option linter.unusedVariables false
set_option linter.unusedSimpArgs false
namespace Go.Abs
def zbb:List (List AC)->Option (List (List D))
 |[]=>some []
 |r::rs=>match allD r,zbb rs with
  |some x,some xs=>some (x::xs)
  |_,_=>none
@[simp] theorem zcJ(es:List (List D)):zbb (es.map (·.map .d))=some es:=by
 induction es with
 |nil=>rfl
 |cons e es ih=>simp[zbb,ih]
@[simp] theorem zzU(a b:List (List AC)):zbb (a++b)=(zbb a).bind fun x=>(zbb b).map fun y=>x++y:=by
 induction a with
 |nil=>simp[zbb]
 | cons e a ih=>
  simp only[List.cons_append,zbb]
  cases allD e with
  |none=>simp
  | some x=>
   rw[ih]
   cases zbb a with
   |none=>simp
   |some y=>
    cases zbb b with
    |none=>simp
    |some z=>simp
theorem zlI:∀{es:List (List AC)} {ds:List (List D)},zbb es=some ds->es=ds.map (·.map .d)
 |[],ds,h=>by simp[zbb]at h;simp[<-h]
 | e::es,ds,h=>by
  simp only[zbb]at h
  split at h
  ·rename_i x xs h1 h2
   cases h
   rw[zfZ h1,zlI h2];rfl
  ·cases h
mutual
def frzC(m:Hp):Nat->AC->Option D
 |_,.d x=>some x
 |_,.msl s b off len=>match m b with
  |.arr s' es=>if s=s'/\off+len<=es.length then(zbb es).map fun ds=>.sl false s ((ds.drop off).take len)else none
  |_=>none
 |f+1,.ptr b off=>match m b with
  |.box cs=>(zc7 m f cs).map fun ds=>.rp ds off
  |_=>none
 |f+1,.fn g caps=>(zc7 m f caps).map fun ds=>.fn g ds
 |_,_=>none
def zc7(m:Hp):Nat->List AC->Option (List D)
 |_,[]=>some []
 |f,c::cs=>match frzC m f c,zc7 m f cs with
  |some x,some xs=>some (x::xs)
  |_,_=>none
end
mutual
def frzV(m:Hp):AV->Option DV
 |.c x=>(frzC m 4 x).map .one
 |.ag cs=>(zc7 m 4 cs).map .agg
 |.tup vs=>(zfP m vs).map .tup
def zfP(m:Hp):List AV->Option (List DV)
 |[]=>some []
 |v::vs=>match frzV m v,zfP m vs with
  |some x,some xs=>some (x::xs)
  |_,_=>none
end
@[simp] theorem zBU(m:Hp)(f:Nat)(ds:List D):zc7 m f (ds.map .d)=some ds:=by
 induction ds with
 |nil=>unfold zc7;rfl
 |cons d ds ih=>simp[zc7,ih,frzC]
theorem zjN{m:Hp}:∀(f:Nat) (cs:List AC) (ds:List D),zc7 m f cs=some ds->ds.length=cs.length
 |f,[],ds,e=>by unfold zc7 at e;cases e;rfl
 | f,c::cs,ds,e=>by
  unfold zc7 at e
  split at e
  ·rename_i x xs h1 h2
   cases e
   simp[zjN f cs xs h2]
  ·cases e
def zbp(h:PH)(n:Nat)(w:Heap):PH:=fun B=>if B<n then h B else w[B]?
section
variable {h:PH} {ρ:RM} {m:Hp} {w:Heap} {n:Nat}
theorem zet(H:HRel h ρ m w):h.le (zbp h n w):=fun B o e=>by
 unfold zbp
 split
 ·exact e
 ·exact H.pers B o e
theorem zgm(H:HRel h ρ m w):∀B o,zbp h n w B=some o->w[B]?=some o:=fun B o e=>by
 unfold zbp at e
 split at e
 ·exact H.pers B o e
 ·exact e
mutual
theorem zsP (H:HRel h ρ m w) (hnew:∀b p,ρ b=some p->Real (m b) p->n<=p.1):∀(f:Nat) (x:AC) (d:D) (v:Value),frzC m f x=some d->RepC h ρ x v->RepD (zbp h n w) d v
 |f,.d x,d,v,e,r=>by
  unfold frzC at e;cases e
  simp only[RepC]at r
  exact RepD.mono (zet H) x v r
 | f, .msl s b off len,d,v,e,r=>by
  unfold frzC at e
  split at e
  ·rename_i s' es eb
   split at e
   ·rename_i hh
    obtain⟨h1,h2⟩:=hh
    subst h1
    simp only[Option.map_eq_some_iff]at e
    obtain⟨ds,e1,e2⟩:=e
    subst e2
    have:=zlI e1
    subst this
    simp only[RepC]at r
    obtain⟨p,a,r1,r2,r3,r4,r5⟩:=r
    simp only[List.length_map]at h2
    have hlen:((ds.drop off).take len).length=len:=by simp;omega
    have how:=H.own b p r1
    rw[eb]at how
    unfold RepD
    rcases how with⟨q1,q2⟩|⟨us,U,g1,g2,g3,g5,g4⟩
    ·have hds:ds=[]:=by simpa using q2
     subst hds
     have hl0:len=0:=by simp at h2;omega
     have ho0:off=0:=by simp at h2;omega
     subst hl0 ho0
     refine⟨a,p.2-0,by rw[r2];simp,by simp,(fun h=>by cases h),by simp[zah],(fun ha=>⟨by simp,by omega⟩),r5,by simp[RepE]⟩
    ·refine⟨a,p.2-off,by rw[r2,hlen],by omega,(fun h=>by cases h),by simp at g5;omega,fun ha=>?_,r5,?_⟩
     ·have:¬off<p.2:=fun hlt=>by rw[r4 hlt]at ha;cases ha
      have hl0:len=0:=by omega
      subst hl0
      exact⟨by simp,by omega⟩
     ·by_cases hlt:off<p.2
      ·have ha:=r4 hlt
       subst ha
       have hn:n<=p.1:=hnew b p r1 (by rw[eb];show 0<p.2;omega)
       have e4:cellsAt (zbp h n w) (some ⟨p.1,off*s,none⟩)=us.drop (off*s):=by
        simp only[cellsAt,hcells,zbp]
        rw[if_neg (by omega),g1]
       rw[e4]
       have g6:=zam.to_E g4
       have:=(g6.drop off).take len
       have key:∀(es:List (List D)) (vs:List Value),RepE h s es vs->RepE (zbp h n w) s es vs:=fun es vs r=>by
        simpa using RepE.mono (zet H) es vs [] r
       exact key _ _ this
      ·have hl0:len=0:=by omega
       subst hl0
       simp[RepE]
   ·cases e
  ·cases e
 | f+1,.ptr b off,d,v,e,r=>by
  unfold frzC at e
  split at e
  ·rename_i cs eb
   simp only[Option.map_eq_some_iff]at e
   obtain⟨ds,e1,e2⟩:=e
   subst e2
   simp only[RepC]at r
   obtain⟨p,r1,r2⟩:=r
   have how:=H.own b p r1
   rw[eb]at how
   obtain⟨us,U,g1,g2,g3⟩:=how
   have hn:n<=p.1:=hnew b p r1 (by rw[eb];trivial)
   unfold RepD
   refine⟨p.1,0,by rw[r2];simp,?_⟩
   have e4:hcells (zbp h n w) p.1=us:=by
    simp only[hcells,zbp]
    rw[if_neg (by omega),g1]
   rw[e4]
   exact ziu H hnew f cs ds us e1 (by simpa using g3)
  ·cases e
 |f+1,.fn g caps,d,v,e,r=>by
  unfold frzC at e
  simp only[Option.map_eq_some_iff]at e
  obtain⟨ds,e1,e2⟩:=e
  subst e2
  simp only[RepC]at r
  obtain⟨vs,r1,r2,r3⟩:=r
  unfold RepD
  have hl:ds.length=caps.length:=zjN f caps ds e1
  exact⟨vs,r1,by rw[r2,hl],ziu H hnew f caps ds vs e1 r3⟩
 |0,.ptr b off,d,v,e,r=>by unfold frzC at e;cases e
 |0,.fn g caps,d,v,e,r=>by unfold frzC at e;cases e
 |0,.ept s b i off,d,v,e,r=>by unfold frzC at e;cases e
 |_+1,.ept s b i off,d,v,e,r=>by unfold frzC at e;cases e
 |0,.map b,d,v,e,r=>by unfold frzC at e;cases e
 |_+1,.map b,d,v,e,r=>by unfold frzC at e;cases e
 |0,.op q,d,v,e,r=>by unfold frzC at e;cases e
 |_+1,.op q,d,v,e,r=>by unfold frzC at e;cases e
theorem ziu(H:HRel h ρ m w)(hnew:∀b p,ρ b=some p->Real (m b) p->n<=p.1):∀(f:Nat) (cs:List AC) (ds:List D) (vs:List Value),zc7 m f cs=some ds->zae h ρ cs vs->RepL (zbp h n w) ds vs
 |f,[],ds,vs,e,r=>by unfold zc7 at e;cases e;simp[RepL]
 |f,_::_,ds,[],e,r=>by simp[zae]at r
 | f,c::cs,ds,v::vs,e,r=>by
  unfold zc7 at e
  split at e
  ·rename_i x xs h1 h2
   cases e
   simp only[zae]at r
   simp only[RepL]
   exact⟨⟨r.1.1,zsP H hnew f c x v h1 r.1.2⟩,ziu H hnew f cs xs vs h2 r.2⟩
  ·cases e
end
mutual
theorem zsQ(H:HRel h ρ m w)(hnew:∀b p,ρ b=some p->Real (m b) p->n<=p.1):∀(x:AV) (d:DV) (v:Value),frzV m x=some d->RepV h ρ x v->zaJ (zbp h n w) d v
 |.c x,d,v,e,r=>by
  unfold frzV at e
  simp only[Option.map_eq_some_iff]at e
  obtain⟨y,e1,e2⟩:=e
  subst e2
  simp only[RepV]at r
  simp only[zaJ]
  exact zsP H hnew _ _ _ _ e1 r
 |.ag cs,d,v,e,r=>by
  unfold frzV at e
  simp only[Option.map_eq_some_iff]at e
  obtain⟨y,e1,e2⟩:=e
  subst e2
  simp only[RepV]at r
  obtain⟨vs,r1,r2,r3⟩:=r
  simp only[zaJ]
  exact⟨vs,r1,by rw[r2,zjN _ _ _ e1],ziu H hnew _ _ _ _ e1 r3⟩
 |.tup xs,d,v,e,r=>by
  unfold frzV at e
  simp only[Option.map_eq_some_iff]at e
  obtain⟨y,e1,e2⟩:=e
  subst e2
  simp only[RepV]at r
  obtain⟨vs,r1,r2⟩:=r
  simp only[zaJ]
  exact⟨vs,r1,ziv H hnew _ _ _ e1 r2⟩
theorem ziv(H:HRel h ρ m w)(hnew:∀b p,ρ b=some p->Real (m b) p->n<=p.1):∀(xs:List AV) (ds:List DV) (vs:List Value),zfP m xs=some ds->zat h ρ xs vs->zaw (zbp h n w) ds vs
 |[],ds,vs,e,r=>by unfold zfP at e;cases e;simpa[zat,zaw]using r
 |_::_,ds,[],e,r=>by simp[zat]at r
 | x::xs,ds,v::vs,e,r=>by
  unfold zfP at e
  split at e
  ·rename_i y ys h1 h2
   cases e
   simp only[zat]at r
   simp only[zaw]
   exact⟨zsQ H hnew x y v h1 r.1,ziv H hnew xs ys vs h2 r.2⟩
  ·cases e
end
end
mutual
def D.ok:D->Prop
 |.any=>True
 |.int k n=>k.min<=n/\n<=k.max
 |.bool _=>True
 |.str s=>s.size<=zah
 |.sc _=>True
 |.sl _ s es=>es.length<=zah/\D.okE s es
 |.rp cs _=>D.okL cs
 |.fn _ cs=>D.okL cs
 |.ifc _ _ cs=>D.okL cs
def D.okL:List D->Prop
 |[]=>True
 |d::ds=>d.ok/\D.okL ds
def D.okE(s:Nat):List (List D)->Prop
 |[]=>True
 |e::es=>(e.length=s/\D.okL e)/\D.okE s es
end
mutual
theorem RepD.ok{h:PH}:∀(d:D) (v:Value),RepD h d v->d.ok
 |.any,_,_=>by simp[D.ok]
 |.int k n,v,r=>by simp only[RepD]at r;simp only[D.ok];exact r.2
 |.bool _,_,_=>by simp[D.ok]
 |.str s,v,r=>by simp only[RepD]at r;simp only[D.ok];exact r.2
 |.sc _,_,_=>by simp[D.ok]
 |.sl x s es,v,r=>by
  simp only[RepD]at r
  obtain⟨a,cap,r1,r2,r3,r4,r5,r6,r7⟩:=r
  simp only[D.ok]
  exact⟨r4,RepE.ok s es _ r7⟩
 |.rp cs off,v,r=>by
  simp only[RepD]at r
  obtain⟨B,o,r1,r2⟩:=r
  simp only[D.ok]
  exact RepL.ok cs _ r2
 |.fn f caps,v,r=>by
  simp only[RepD]at r
  obtain⟨vs,r1,r2,r3⟩:=r
  simp only[D.ok]
  exact RepL.ok caps _ r3
 |.ifc t ag cs,v,r=>by
  simp only[RepD]at r
  obtain⟨vs,r1,r2,r3,r4⟩:=r
  simp only[D.ok]
  exact RepL.ok cs _ r4
theorem RepL.ok{h:PH}:∀(ds:List D) (vs:List Value),RepL h ds vs->D.okL ds
 |[],_,_=>by simp[D.okL]
 |_::_,[],r=>by simp[RepL]at r
 |d::ds,v::vs,r=>by
  simp only[RepL]at r
  simp only[D.okL]
  exact⟨RepD.ok d v r.1.2,RepL.ok ds vs r.2⟩
theorem RepE.ok{h:PH}(s:Nat):∀(es:List (List D)) (vs:List Value),RepE h s es vs->D.okE s es
 |[],_,_=>by simp[D.okE]
 |e::es,vs,r=>by
  simp only[RepE]at r
  simp only[D.okE]
  exact⟨⟨r.1,RepL.ok e vs r.2.1⟩,RepE.ok s es _ r.2.2⟩
end
mutual
def DV.ok:DV->Prop
 |.one x=>x.ok
 |.agg cs=>D.okL cs
 |.tup vs=>DV.okL vs
def DV.okL:List DV->Prop
 |[]=>True
 |v::vs=>v.ok/\DV.okL vs
end
mutual
theorem zaJ.ok{h:PH}:∀(d:DV) (v:Value),zaJ h d v->d.ok
 |.one x,v,r=>by simp only[zaJ]at r;simp only[DV.ok];exact RepD.ok _ _ r
 |.agg cs,v,r=>by
  simp only[zaJ]at r
  obtain⟨vs,r1,r2,r3⟩:=r
  simp only[DV.ok];exact RepL.ok _ _ r3
 |.tup xs,v,r=>by
  simp only[zaJ]at r
  obtain⟨vs,r1,r2⟩:=r
  simp only[DV.ok];exact zaw.ok _ _ r2
theorem zaw.ok{h:PH}:∀(ds:List DV) (vs:List Value),zaw h ds vs->DV.okL ds
 |[],_,_=>by simp[DV.okL]
 |_::_,[],r=>by simp[zaw]at r
 |d::ds,v::vs,r=>by
  simp only[zaw]at r
  simp only[DV.okL]
  exact⟨zaJ.ok d v r.1,zaw.ok ds vs r.2⟩
end
def D.er:D->D
 |.sl _ s es=>.sl false s es
 |d=>d
theorem RepD.er{h:PH}{d:D}{v:Value}(r:RepD h d v):RepD h d.er v:=by
 cases d with
 |sl x s es=>
  simp only[D.er]
  simp only[RepD]at r⊢
  obtain⟨a,cap,r1,r2,r3,r4⟩:=r
  exact⟨a,cap,r1,r2,(fun h=>by cases h),r4⟩
 |_=>exact r
theorem RepL.er{h:PH}:∀{ds:List D} {vs:List Value},RepL h ds vs->RepL h (ds.map D.er) vs
 |[],_,_=>by simp[RepL]
 |_::_,[],r=>by simp[RepL]at r
 |d::ds,v::vs,r=>by
  simp only[RepL]at r
  simp only[List.map_cons,RepL]
  exact⟨⟨r.1.1,r.1.2.er⟩,r.2.er⟩
mutual
def DV.er:DV->DV
 |.one x=>.one x.er
 |.agg cs=>.agg (cs.map D.er)
 |.tup vs=>.tup (DV.ers vs)
def DV.ers:List DV->List DV
 |[]=>[]
 |v::vs=>v.er::DV.ers vs
end
mutual
theorem zaJ.er{h:PH}:∀{d:DV} {v:Value},zaJ h d v->zaJ h d.er v
 |.one x,v,r=>by simp only[zaJ,DV.er]at r⊢;exact RepD.er r
 |.agg cs,v,r=>by
  simp only[zaJ,DV.er]at r⊢
  obtain⟨vs,r1,r2,r3⟩:=r
  exact⟨vs,r1,by simpa using r2,r3.er⟩
 |.tup xs,v,r=>by
  simp only[zaJ,DV.er]at r⊢
  obtain⟨vs,r1,r2⟩:=r
  exact⟨vs,r1,zaw.ers r2⟩
theorem zaw.ers{h:PH}:∀{ds:List DV} {vs:List Value},zaw h ds vs->zaw h (DV.ers ds) vs
 |[],_,r=>by simpa[zaw,DV.ers]using r
 |_::_,[],r=>by simp[zaw]at r
 |d::ds,v::vs,r=>by
  simp only[zaw]at r
  simp only[DV.ers,zaw]
  exact⟨r.1.er,zaw.ers r.2⟩
end
inductive MR where
 |tmp (t:Nat)
 |cell (t:Nat) (ag:Bool) (sz:Nat)
def chkR(P:Program):List MR->List ResultVar->Bool
 |[],[]=>true
 |.tmp t::rs,.tmp t'::vs=>t==t'&&chkR P rs vs
 |.cell t ag sz::rs,.cell t' T::vs=>t==t'&&tyA P T==some (ag,sz)&&chkR P rs vs
 |_,_=>false
def resK(S:St)(K:AV->Prop):MR->Prop
 |.tmp t=>K (S.get t)
 | .cell t ag sz=>match S.get t with
  |.c (.d (.rp cs off))=>ldD ag sz cs off K
  |.c (.ptr b off)=>match S.m b with
   |.box cs=>ldC ag sz cs off K
   |_=>False
  |_=>False
def zgU(S:St):List MR->(List AV->Prop)->Prop
 |[],K=>K []
 |r::rs,K=>resK S (fun v=>zgU S rs fun vs=>K (v::vs)) r
def oneV:List Value->Value
 |[v]=>v
 |vs=>.tuple vs.toArray
def one?:List AV->AV
 |[v]=>v
 |vs=>.tup vs
section
variable {P:Program} {c:Ctx}
theorem zy8{S:St}{K:AV->Prop}{r:MR}{rv:ResultVar}(hc:chkR P [r] [rv]=true)(hK:resK S K r):∃v,K v/\∀{h:PH} {ρ:RM} {a:Act} {w:World},HRel h ρ S.m w.heap->(∀k,RepV h ρ (S.get k) (a.tmps.getD k undef))->
  ∃vC,Runs P (match rv with|.tmp t=>(Pure.pure (a.tmps.getD t undef):Sem Value)|.cell t T=>do loadVar T (<-asAddr (a.tmps.getD t undef))) w vC w/\RepV h ρ v vC:=by
 cases r with
 | tmp t=>
  cases rv with
  |tmp t'=>
   simp only[chkR,Bool.and_true,beq_iff_eq]at hc
   subst hc
   exact⟨_,hK,fun {h ρ a w} H hg=>⟨_,Runs.pure _,hg t⟩⟩
  |cell _ _=>simp[chkR]at hc
 | cell t ag sz=>
  cases rv with
  |tmp _=>simp[chkR]at hc
  | cell t' T=>
   simp only[chkR,Bool.and_true,Bool.and_eq_true,beq_iff_eq]at hc
   obtain⟨h1,hT⟩:=hc
   subst h1
   simp only[resK]at hK
   split at hK
   ·rename_i cs off ex
    obtain⟨v,kv,F⟩:=zvT hT hK
    refine⟨v,kv,fun {h ρ a w} H hg=>?_⟩
    have r1:=hg t
    rw[ex]at r1
    simp only[RepV,RepC,RepD]at r1
    obtain⟨B,o',e,rl⟩:=r1
    obtain⟨vC,h2,h3⟩:=F (ρ:=ρ) H rl
    refine⟨vC,?_,h3⟩
    show Runs P (do loadVar T (<-asAddr (a.tmps.getD t undef))) w vC w
    rw[e]
    exact(Runs.pure (⟨B,o'+off,none⟩:Addr)).bind h2
   ·rename_i b off ex
    split at hK
    ·rename_i cs eb
     obtain⟨v,kv,F⟩:=zqW hT hK
     refine⟨v,kv,fun {h ρ a w} H hg=>?_⟩
     have r1:=hg t
     rw[ex]at r1
     simp only[RepV,RepC]at r1
     obtain⟨q,hq,e⟩:=r1
     have how:=H.own b q hq
     rw[eb]at how
     obtain⟨vs,U,g1,g2,g3⟩:=how
     obtain⟨vC,h2,h3⟩:=F (w:=w) (o:=0) g1 (by simpa using g3)
     refine⟨vC,?_,h3⟩
     show Runs P (do loadVar T (<-asAddr (a.tmps.getD t undef))) w vC w
     rw[e]
     simp only[Nat.zero_add]at h2
     exact(Runs.pure (⟨q.1,off,none⟩:Addr)).bind h2
    ·exact hK.elim
   ·exact hK.elim
theorem zlJ{S:St}:∀{rs:List MR} {K:List AV->Prop} {rvs:List ResultVar},chkR P rs rvs=true->zgU S rs K->∃vs,K vs/\∀{h:PH} {ρ:RM} {a:Act} {w:World},HRel h ρ S.m w.heap->(∀k,RepV h ρ (S.get k) (a.tmps.getD k undef))->
  ∃us:List Value,Runs P (rvs.mapM fun|.tmp t=>(Pure.pure (a.tmps.getD t undef):Sem Value)|.cell t T=>do loadVar T (<-asAddr (a.tmps.getD t undef))) w us w/\zat h ρ vs us
 |[],K,[],_,hK=>⟨[],hK,fun _ _=>⟨[],Runs.pure _,rfl⟩⟩
 |[],_,_::_,h,_=>by simp[chkR]at h
 |r::rs,_,[],h,_=>by cases r<;>simp[chkR]at h
 | r::rs,K,rv::rvs,hc,hK=>by
  have h1:chkR P [r] [rv]=true/\chkR P rs rvs=true:=by
   cases r<;>cases rv<;>simp_all[chkR]
  simp only[zgU]at hK
  obtain⟨v,kv,F⟩:=zy8 h1.1 hK
  obtain⟨vs,kvs,G⟩:=zlJ h1.2 kv
  refine⟨v::vs,kvs,fun {h ρ a w} H hg=>?_⟩
  obtain⟨vC,f1,f2⟩:=F (a:=a) H hg
  obtain⟨us,g1,g2⟩:=G (a:=a) H hg
  refine⟨vC::us,?_,⟨f2,g2⟩⟩
  rw[List.mapM_cons]
  exact f1.bind (g1.bind (Runs.pure _))
def argT:Nat->List DV->List (Nat × AV)
 |_,[]=>[]
 |i,v::vs=>(i,v.av)::argT (i+1) vs
def endQ(rs:List MR)(v:DV):Exit->St->Prop
 |.ret,S|.normal,S=>zgU S rs fun vs=>(frzV S.m (one? vs)).map DV.er=some v
 |_,_=>False
theorem zsR{h:PH}{ρ:RM}:∀{ds:List DV} {us:List Value} (i:Nat),zaw h ds us->∀k,RepV h ρ (look (argT i ds) k) (if i<=k then us.getD (k-i) undef else undef)
 |[],us,i,_,k=>by simp[argT,look,RepV,RepC,RepD]
 |_::_,[],_,r,_=>by simp[zaw]at r
 | d::ds,u::us,i,r,k=>by
  simp only[zaw]at r
  simp only[argT,look]
  by_cases hk:k=i
  ·subst hk;simp;exact zaJ.av r.1
  ·rw[if_neg hk]
   have:=zsR (ρ:=ρ) (i+1) r.2 k
   by_cases hle:i<=k
   ·rw[if_pos hle]
    rw[if_pos (by omega)]at this
    rw[show k-i=(k-(i+1))+1 from by omega]
    simpa using this
   ·rw[if_neg hle]
    rw[if_neg (by omega)]at this
    exact this
theorem PCall.of_walk {f : FuncId} {fn : Func} {code : Code} {mc : MC} {rs : List MR} {args : List DV} {v : DV} (hf : P.funcs[f]? = some fn) (hb : fn.body = some code) (hname : (fn.name != "runtime.NumGoroutine") = true)
  (hc:chkC P fn.ntmps mc code=true) (hr:chkR P rs fn.results.toList=true) (hn:args.length<=fn.ntmps) (h:DV.okL args->∀c:Ctx,c.N=fn.ntmps->c.pure->AW P c mc (endQ rs v) ⟨argT 0 args,fun _=>.non,0⟩):PCall P f args v:=by
 refine⟨by unfold callee;rw[hf];simp only[hb];simpa using hname,fun ph w us hp hG ra=>?_⟩
 have hlen:=ra.length
 let c:Ctx:=⟨ph,fun _=>none,fun _=>.non,w,fn.ntmps⟩
 have hpure:c.pure:=trivial
 refine calls_of_wp hf hb (wp_mono (h (zaw.ok _ _ ra) c rfl hpure code hc _ w ?_) fun e a' w' ⟨S',r',q⟩=>?_)
 ·refine⟨hG,rfl,?_,ph,fun _=>none,⟨hp,fun b=>by simp,(fun b p e=>by cases e),(fun b c p q e=>by cases e),(fun b p e=>by cases e)⟩,(Step.refl _ _ _ _).wk,Same.refl w,fun k=>?_⟩
  ·simp[c];omega
  ·show RepV ph (fun _=>none) (look (argT 0 args) k) _
   have:=zsR (ρ:=fun _=>none) 0 ra k
   simp only[Nat.zero_le,if_true,Nat.sub_zero]at this
   have e1:(us.toArray++Array.replicate (fn.ntmps-us.toArray.size) undef).getD k undef=us.getD k undef:=by
    rw[Array.getD_eq_getD_getElem?,List.getD_eq_getElem?_getD,Array.getElem?_append]
    split
    ·simp
    ·rename_i hh
     rw[List.getElem?_eq_none (by simpa using hh)]
     simp only[Array.getElem?_replicate]
     split<;>rfl
   rw[e1]
   exact this
 ·obtain⟨ph',ρ',H,S0,e0,hg⟩:=r'.ex
  have fin:zgU S' rs (fun vs=>(frzV S'.m (one? vs)).map DV.er=some v)->∃vC,(results fn a'.tmps).run P w'=.ok vC w'/\∃(vC':Value) (h':PH),Ending.returned vC=.returned vC'/\ph.le h'/\(∀B,B<w.heap.size->h' B=ph B)/\(∀B o,h' B=some o->w'.heap[B]?=some o)/\
    w.heap.size<=w'.heap.size/\(∀B,B<w.heap.size->w'.heap[B]?=w.heap[B]?)/\Same w w'/\zaJ h' v vC':=by
   intro hk
   obtain⟨vs,kv,F⟩:=zlJ hr hk
   simp only[Option.map_eq_some_iff]at kv
   obtain⟨v',kv,ev⟩:=kv
   subst ev
   obtain⟨us',g1,g2⟩:=F (a:=a') H hg
   have hnew:∀b p,ρ' b=some p->Real (S'.m b) p->w.heap.size<=p.1:=by
    intro b p h1 h2
    rcases S0.own b p h1 h2 with h3|⟨c',q,h3,_⟩
    ·exact h3
    ·cases h3
   have free:∀B,Free c.ρ c.m B:=fun B b p h1=>by cases h1
   have hres:Runs P (results fn a'.tmps) w' (oneV us') w':=by
    unfold results
    refine Runs.bind (a:=us'.toArray) (w':=w') ?_ ?_
    ·rw[Array.mapM_eq_mapM_toList]
     exact g1.map (f:=List.toArray)
    ·cases us' with
     |nil=>exact Runs.pure _
     |cons u us'=>
      cases us' with
      |nil=>exact Runs.pure _
      |cons u' us'=>exact Runs.pure _
   have hrep:RepV ph' ρ' (one? vs) (oneV us'):=by
    cases vs with
    |nil=>
     simp only[zat]at g2;subst g2
     simp only[one?,RepV]
     exact⟨[],rfl,rfl⟩
    | cons x xs=>
     cases us' with
     |nil=>simp[zat]at g2
     | cons u us'=>
      cases xs with
      |nil=>
       simp only[zat]at g2
       rw[g2.2]
       exact g2.1
      | cons y ys=>
       cases us' with
       |nil=>simp[zat]at g2
       |cons u' us'=>
        simp only[one?,RepV]
        exact⟨_,rfl,g2⟩
   refine⟨_,hres,_,zbp ph' w.heap.size w'.heap,rfl,PH.le_trans S0.hle (zet H),fun B hB=>?_,zgm H,S0.size,fun B hB=>S0.frame B hB (free B),e0,(zsQ H hnew _ _ _ kv hrep).er⟩
   unfold zbp
   rw[if_pos hB]
   exact S0.hlow B hB (free B)
  cases e with
  |normal=>exact⟨r'.defers,fin q⟩
  |ret=>exact⟨r'.defers,fin q⟩
  |exit _=>exact q.elim
  |goto _=>exact q.elim
  |panic _=>exact q.elim
  |outgrown=>exact q.elim
end
end Go.Abs
namespace Go.Abs
def AC.fz(b s:Nat)(ds:List (List D)):AC->AC
 |.msl s' b' off len=>if b'=b/\s'=s/\off+len<=ds.length then .d (.sl false s ((ds.drop off).take len))else .msl s' b' off len
 |x=>x
def AV.fz(b s:Nat)(ds:List (List D)):AV->AV
 |.c x=>.c (x.fz b s ds)
 |.ag cs=>match allD cs with
  |some _=>.ag cs
  |none=>.ag (cs.map (AC.fz b s ds))
 |.tup vs=>.tup vs
def Blk.fz(b s:Nat)(ds:List (List D)):Blk->Blk
 |.box cs=>match allD cs with
  |some _=>.box cs
  |none=>.box (cs.map (AC.fz b s ds))
 |.arr s' es=>match zbb es with
  |some _=>.arr s' es
  |none=>.arr s' (es.map (·.map (AC.fz b s ds)))
 |x=>x
@[simp] theorem AC.fz_msl{b s:Nat}{ds:List (List D)}{s' b' off len:Nat}:(AC.msl s' b' off len).fz b s ds=if b'=b/\s'=s/\off+len<=ds.length then .d (.sl false s ((ds.drop off).take len))else .msl s' b' off len:=(Eq.refl _).trans rfl
@[simp] theorem AC.fz_d{b s:Nat}{ds:List (List D)}{x:D}:(AC.d x).fz b s ds=.d x:=(Eq.refl _).trans rfl
@[simp] theorem AC.fz_ptr{b s:Nat}{ds:List (List D)}{i j:Nat}:(AC.ptr i j).fz b s ds=.ptr i j:=(Eq.refl _).trans rfl
@[simp] theorem AC.fz_ept{b s:Nat}{ds:List (List D)}{i j k l:Nat}:(AC.ept i j k l).fz b s ds=.ept i j k l:=(Eq.refl _).trans rfl
@[simp] theorem AV.fz_c{b s:Nat}{ds:List (List D)}{x:AC}:(AV.c x).fz b s ds=.c (x.fz b s ds):=(Eq.refl _).trans rfl
@[simp] theorem AV.fz_ag{b s:Nat}{ds:List (List D)}{cs:List AC}:(AV.ag cs).fz b s ds=(match allD cs with
  |some _=>.ag cs
  |none=>.ag (cs.map (AC.fz b s ds))):=(Eq.refl _).trans rfl
@[simp] theorem AV.fz_tup{b s:Nat}{ds:List (List D)}{vs:List AV}:(AV.tup vs).fz b s ds=.tup vs:=(Eq.refl _).trans rfl
@[simp] theorem Blk.fz_box{b s:Nat}{ds:List (List D)}{cs:List AC}:(Blk.box cs).fz b s ds=(match allD cs with
  |some _=>.box cs
  |none=>.box (cs.map (AC.fz b s ds))):=(Eq.refl _).trans rfl
@[simp] theorem Blk.fz_arr{b s:Nat}{ds:List (List D)}{s':Nat}{es:List (List AC)}:(Blk.arr s' es).fz b s ds=(match zbb es with
  |some _=>.arr s' es
  |none=>.arr s' (es.map (·.map (AC.fz b s ds)))):=(Eq.refl _).trans rfl
@[simp] theorem Blk.fz_dead{b s:Nat}{ds:List (List D)}:Blk.dead.fz b s ds=.dead:=(Eq.refl _).trans rfl
@[simp] theorem Blk.fz_nonB{b s:Nat}{ds:List (List D)}:Blk.non.fz b s ds=.non:=(Eq.refl _).trans rfl
@[simp] theorem Blk.fz_mapB{b s:Nat}{ds:List (List D)}{es:List (D × AV)}:(Blk.map es).fz b s ds=.map es:=(Eq.refl _).trans rfl
@[simp] theorem Blk.fz_pin{b s:Nat}{ds:List (List D)}{t:Nat × Nat}{i:Nat}:(Blk.pin t i).fz b s ds=.pin t i:=(Eq.refl _).trans rfl
@[simp] theorem zcP{α:Type}(l:List α)(f:α->List D):zbb (l.map ((fun x=>List.map AC.d x)∘f))=some (l.map f):=by
 rw[<-List.map_map];exact zcJ _
section
variable {h:PH} {ρ:RM} {m:Hp} {w:Heap} {b s:Nat} {ds:List (List D)}
noncomputable def fzH (h:PH) (p:Nat × Nat) (w:Heap):PH:=if 0<p.2 then upd h p.1 w[p.1]? else h
theorem zjQ(H:HRel h ρ m w){p:Nat × Nat}(e:ρ b=some p)(hb:m b=.arr s (ds.map (·.map .d))):
  HRel (fzH h p w) ρ (upd m b .dead) w/\Step h ρ m w (fzH h p w) ρ (upd m b .dead) w/\h.le (fzH h p w):=by
 unfold fzH
 by_cases hp:0<p.2
 ·rw[if_pos hp]
  obtain⟨a,c⟩:=H.freeze e (show Real (m b) p by rw[hb];exact hp)
  exact⟨a,c,c.hle⟩
 ·rw[if_neg hp]
  obtain⟨a,c⟩:=H.kill (b:=b) (by rw[hb];intro h;cases h)
  exact⟨a,c,c.hle⟩
theorem RepC.fz(H:HRel h ρ m w){p:Nat × Nat}(e:ρ b=some p)(hb:m b=.arr s (ds.map (·.map .d))){x:AC}{v:Value}(r:RepC h ρ x v):RepC (fzH h p w) ρ (x.fz b s ds) v:=by
 have hle:=(zjQ H e hb).2.2
 cases x with
 | msl s' b' off len=>
  show RepC _ _ (if b'=b/\s'=s/\off+len<=ds.length then AC.d (.sl false s ((ds.drop off).take len))else .msl s' b' off len) v
  by_cases hh:b'=b/\s'=s/\off+len<=ds.length
  ·rw [if_pos hh]
   obtain⟨rfl,rfl,h2⟩:=hh
   simp only[RepC]at r⊢
   obtain⟨p',a,r1,r2,r3,r4,r5⟩:=r
   rw[e]at r1;cases r1
   have hlen:((ds.drop off).take len).length=len:=by simp;omega
   have how:=H.own b' p e
   rw[hb]at how
   unfold RepD
   rcases how with⟨q1,q2⟩|⟨us,U,g1,g2,g3,g5,g4⟩
   ·have hds:ds=[]:=by simpa using q2
    subst hds
    have hl0:len=0:=by simp at h2;omega
    have ho0:off=0:=by simp at h2;omega
    subst hl0 ho0
    exact⟨a,p.2-0,by rw[r2];simp,by simp,(fun h=>by cases h),by simp[zah],(fun ha=>⟨by simp,by omega⟩),r5,by simp[RepE]⟩
   ·refine⟨a,p.2-off,by rw[r2,hlen],by omega,(fun h=>by cases h),by simp at g5;omega,fun ha=>?_,r5,?_⟩
    ·have:¬off<p.2:=fun hlt=>by rw[r4 hlt]at ha;cases ha
     have hl0:len=0:=by omega
     subst hl0
     exact⟨by simp,by omega⟩
    ·by_cases hlt:off<p.2
     ·have ha:=r4 hlt
      subst ha
      have e4:cellsAt (fzH h p w) (some ⟨p.1,off*s',none⟩)=us.drop (off*s'):=by
       unfold fzH
       rw[if_pos (by omega)]
       simp only[cellsAt,hcells,upd_same]
       rw[g1]
      rw[e4]
      have g6:=zam.to_E g4
      have:=(g6.drop off).take len
      have key:∀(es:List (List D)) (vs:List Value),RepE h s' es vs->RepE (fzH h p w) s' es vs:=fun es vs r=>by
       simpa using RepE.mono hle es vs [] r
      exact key _ _ this
     ·have hl0:len=0:=by omega
      subst hl0
      simp[RepE]
  ·rw[if_neg hh];exact RepC.mono hle (RM.le_refl _) _ _ r
 |_=>exact RepC.mono hle (RM.le_refl _) _ _ r
theorem zae.fz(H:HRel h ρ m w){p:Nat × Nat}(e:ρ b=some p)(hb:m b=.arr s (ds.map (·.map .d))):∀{cs:List AC} {vs:List Value},zae h ρ cs vs->zae (fzH h p w) ρ (cs.map (AC.fz b s ds)) vs
 |[],_,_=>by simp[zae]
 |_::_,[],r=>by simp[zae]at r
 |c::cs,v::vs,r=>by
  simp only[zae,List.map_cons]at r⊢
  exact⟨⟨r.1.1,RepC.fz H e hb r.1.2⟩,zae.fz H e hb r.2⟩
theorem zam.fz(H:HRel h ρ m w){p:Nat × Nat}(e:ρ b=some p)(hb:m b=.arr s (ds.map (·.map .d))){t:Nat}:∀{es:List (List AC)} {vs:List Value},zam h ρ t es vs->zam (fzH h p w) ρ t (es.map (·.map (AC.fz b s ds))) vs
 |[],_,_=>by simp[zam]
 |c::cs,vs,r=>by
  simp only[zam,List.map_cons,List.length_map]at r⊢
  exact⟨r.1,zae.fz H e hb r.2.1,zam.fz H e hb r.2.2⟩
theorem RepV.fz(H:HRel h ρ m w){p:Nat × Nat}(e:ρ b=some p)(hb:m b=.arr s (ds.map (·.map .d))){x:AV}{v:Value}(r:RepV h ρ x v):RepV (fzH h p w) ρ (x.fz b s ds) v:=by
 cases x with
 |c x=>simp only[RepV,AV.fz]at r⊢;exact RepC.fz H e hb r
 | ag cs=>
  rw[AV.fz_ag]
  split
  ·exact RepV.mono (zjQ H e hb).2.2 (RM.le_refl _) _ _ r
  ·simp only[RepV,List.length_map]at r⊢
   obtain⟨vs,r1,r2,r3⟩:=r
   exact⟨vs,r1,r2,zae.fz H e hb r3⟩
 |tup vs=>exact RepV.mono (zjQ H e hb).2.2 (RM.le_refl _) _ _ r
theorem Blk.fz_non{x:Blk}:x.fz b s ds=.non↔x=.non:=by cases x<;>simp<;>split<;>simp
theorem Blk.fz_real{x:Blk}{p:Nat × Nat}:Real (x.fz b s ds) p↔Real x p:=by cases x<;>simp<;>split<;>simp[Real]
theorem zaC.fz(H:HRel h ρ m w){p q:Nat × Nat}(e:ρ b=some p)(hb:m b=.arr s (ds.map (·.map .d))){x:Blk}(r:zaC h ρ q x w):zaC (fzH h p w) ρ q (x.fz b s ds) w:=by
 have hle:=(zjQ H e hb).2.2
 cases x with
 | box cs=>
  rw[Blk.fz_box]
  split
  ·exact zaC.congr hle (RM.le_refl _) rfl r
  ·simp only[zaC,List.length_map]at r⊢
   obtain⟨vs,T,r1,r2,r3⟩:=r
   exact⟨vs,T,r1,r2,zae.fz H e hb r3⟩
 | arr t es=>
  rw[Blk.fz_arr]
  split
  ·exact zaC.congr hle (RM.le_refl _) rfl r
  ·simp only[zaC,List.length_map,List.map_eq_nil_iff]at r⊢
   rcases r with r|⟨vs,T,r1,r2,r3,r4,r5⟩
   ·exact .inl r
   ·exact .inr ⟨vs,T,r1,r2,r3,r4,zam.fz H e hb r5⟩
 |_=>exact zaC.congr hle (RM.le_refl _) rfl r
def fzM(m:Hp)(b s:Nat)(ds:List (List D)):Hp:=fun i=>if i=b then .dead else(m i).fz b s ds
@[simp] theorem zb8(m:Hp)(b s:Nat)(ds:List (List D))(i:Nat):fzM m b s ds i=if i=b then .dead else(m i).fz b s ds:=(Eq.refl _).trans rfl
theorem HRel.fz(H:HRel h ρ m w){p:Nat × Nat}(e:ρ b=some p)(hb:m b=.arr s (ds.map (·.map .d))):
  HRel (fzH h p w) ρ (fzM m b s ds) w/\Step h ρ m w (fzH h p w) ρ (fzM m b s ds) w:=by
 obtain⟨K,S,hle⟩:=zjQ H e hb
 have hn:∀i,fzM m b s ds i=.non↔upd m b .dead i=.non:=fun i=>by
  unfold fzM
  by_cases hi:i=b
  ·subst hi;rw[if_pos rfl,upd_same]
  ·rw[if_neg hi,upd_ne _ _ hi];exact Blk.fz_non
 have hr:∀i q,Real (fzM m b s ds i) q↔Real (upd m b .dead i) q:=fun i q=>by
  unfold fzM
  by_cases hi:i=b
  ·subst hi;rw[if_pos rfl,upd_same]
  ·rw[if_neg hi,upd_ne _ _ hi];exact Blk.fz_real
 refine⟨⟨K.pers,fun i=>(hn i).trans (K.dom i),fun i q hq=>?_,fun i j q q' h1 h2 h3 h4=>K.inj i j q q' h1 h2 ((hr _ _).1 h3) ((hr _ _).1 h4),fun i q h1 h2=>K.sep i q h1 ((hr _ _).1 h2)⟩,
  ⟨S.hle,S.hlow,S.rle,S.size,S.frame,fun i q h1 h2=>S.own i q h1 ((hr _ _).1 h2)⟩⟩
 unfold fzM
 by_cases hi:i=b
 ·subst hi;rw[if_pos rfl];trivial
 ·rw[if_neg hi]
  exact zaC.fz H e hb (H.own i q hq)
end
theorem Rel.fz{P:Program}{c:Ctx}{get:Nat->AV}{m:Hp}{a:Act}{w:World}{b s:Nat}{ds:List (List D)}(R:Rel P c get m a w)(hb:m b=.arr s (ds.map (·.map .d))):Rel P c (fun k=>(get k).fz b s ds) (fzM m b s ds) a w:=by
 obtain⟨h,ρ,H,S,sm,r⟩:=R.ex
 have hne:ρ b≠none:=fun e=>by have:=(H.dom b).2 e;rw[hb]at this;cases this
 obtain⟨p,e⟩:=Option.ne_none_iff_exists'.1 hne
 obtain⟨K,T⟩:=H.fz e hb
 exact⟨R.gnd,R.defers,R.size,⟨_,ρ,K,S.trans T,sm,fun k=>RepV.fz H e hb (r k)⟩⟩
def fzG(S:St):List Nat->(St->Prop)->Prop
 |[],K=>K S
 | b::l,K=>match S.m b with
  |.arr s es=>match zbb es with
   |some ds=>fzG ⟨S.t.map fun kv=>(kv.1,kv.2.fz b s ds),fzM S.m b s ds,S.n⟩ l K
   |none=>False
  |_=>False
@[simp] theorem zeS{S:St}{K:St->Prop}:fzG S [] K=K S:=(Eq.refl _).trans rfl
@[simp] theorem zd8{S:St}{K:St->Prop}{b:Nat}{l:List Nat}:fzG S (b::l) K=(match S.m b with
  |.arr s es=>match zbb es with
   |some ds=>fzG ⟨S.t.map fun kv=>(kv.1,kv.2.fz b s ds),fzM S.m b s ds,S.n⟩ l K
   |none=>False
  |_=>False):=(Eq.refl _).trans rfl
theorem fzG.mono{K K':St->Prop}:∀(l:List Nat) {S:St},fzG S l K->(∀S',K S'->K' S')->fzG S l K'
 |[],S,h,k=>k S h
 | b::l,S,h,k=>by
  unfold fzG at h⊢
  split
  ·rename_i s es eb
   rw[eb]at h
   simp only at h
   split
   ·rename_i ds ed
    rw[ed]at h
    exact fzG.mono l h k
   ·rename_i ed
    rw[ed]at h
    exact h
  ·rename_i hn
   split at h
   ·rename_i s es eb
    exact(hn s es eb).elim
   ·exact h
theorem zak(t:List (Nat × AV))(b s:Nat)(ds:List (List D))(k:Nat):look (t.map fun kv=>(kv.1,kv.2.fz b s ds)) k=(look t k).fz b s ds:=by
 induction t with
 |nil=>rfl
 |cons x t ih=>
  obtain⟨j,v⟩:=x
  simp only[List.map_cons,look]
  split
  ·rfl
  ·exact ih
theorem AW.fzq{P:Program}{c:Ctx}{mc:MC}{Q:Exit->St->Prop}:∀(l:List Nat) {S:St},fzG S l (fun S'=>AW P c mc Q S')->AW P c (.fzq mc) Q S
 |[],S,h=>fun code hc a w r=>h code (by simpa[chkC]using hc) a w r
 | b::l,S,h=>by
  unfold fzG at h
  split at h
  ·rename_i s es eb
   split at h
   ·rename_i ds ed
    have:=zlI ed
    subst this
    have k:=AW.fzq l h
    intro code hc a w r
    refine k code hc a w ?_
    have:=r.fz eb
    have eg:(St.get ⟨S.t.map fun kv=>(kv.1,kv.2.fz b s ds),fzM S.m b s ds,S.n⟩)=fun k=>(S.get k).fz b s ds:=funext fun k=>zak _ _ _ _ _
    rw[eg]
    exact this
   ·exact h.elim
  ·exact h.elim
end Go.Abs
namespace Go.Abs
inductive OwP where
 |t (k:Nat)
 |c (b i:Nat)
 |a (k i:Nat)
section
variable {h:PH} {ρ:RM} {m:Hp} {w:Heap}
theorem HRel.reblk(H:HRel h ρ m w){b:Nat}{p:Nat × Nat}(e:ρ b=some p){blk:Blk}(hn:blk≠.non)(hr:Real blk p↔Real (m b) p)(r:zaC h ρ p blk w):
  HRel h ρ (upd m b blk) w/\Step h ρ m w h ρ (upd m b blk) w:=by
 have key:∀c q,ρ c=some q->(Real (upd m b blk c) q↔Real (m c) q):=fun c q hq=>by
  by_cases hc:c=b
  ·subst hc;rw[upd_same];rw[e]at hq;cases hq;exact hr
  ·rw[upd_ne _ _ hc]
 refine⟨⟨H.pers,?_,?_,?_,?_⟩,⟨PH.le_refl h,fun B hB _=>rfl,RM.le_refl _,Nat.le_refl _,fun B hB _=>rfl,?_⟩⟩
 ·intro c
  by_cases hc:c=b
  ·subst hc;rw[upd_same,e];simp[hn]
  ·rw[upd_ne _ _ hc];exact H.dom c
 ·intro c q hq
  by_cases hc:c=b
  ·subst hc;rw[upd_same];rw[e]at hq;cases hq;exact r
  ·rw[upd_ne _ _ hc];exact H.own c q hq
 ·intro c d q r hc hd hs ht heq
  exact H.inj c d q r hc hd ((key c q hc).1 hs) ((key d r hd).1 ht) heq
 ·intro c q hq hs
  exact H.sep c q hq ((key c q hq).1 hs)
 ·intro c q hq hs
  exact .inr ⟨c,q,hq,(key c q hq).1 hs,rfl⟩
theorem RepC.own{s n:Nat}{v:Value}(e:ρ n=some (0,0))(r:RepC h ρ (.d (.sl true s [])) v):RepC h ρ (.msl s n 0 0) v:=by
 simp only[RepC,RepD]at r⊢
 obtain⟨a,cap,r1,r2,r3,r4,r5,r6,r7⟩:=r
 have hc:cap=0:=by simpa using r3 trivial
 subst hc
 exact⟨(0,0),a,e,by simpa using r1,Nat.le_refl _,fun h=>absurd h (by simp),fun q _ h=>absurd h (by simp)⟩
theorem zae.setAt{c':AC}:∀{cs:List AC} {vs:List Value} {i:Nat} {c:AC},cs[i]?=some c->(∀v:Value,RepC h ρ c v->RepC h ρ c' v)->zae h ρ cs vs->zae h ρ (cs.set i c') vs
 |[],vs,i,c,e,_,_=>by simp at e
 |_::_,[],_,_,_,_,r=>by simp[zae]at r
 |d::cs,v::vs,0,c,e,hc,r=>by
  simp only[List.getElem?_cons_zero,Option.some.injEq]at e
  subst e
  simp only[zae,List.set_cons_zero]at r⊢
  exact⟨⟨r.1.1,hc v r.1.2⟩,r.2⟩
 |d::cs,v::vs,i+1,c,e,hc,r=>by
  simp only[List.getElem?_cons_succ]at e
  simp only[zae,List.set_cons_succ]at r⊢
  exact⟨r.1,zae.setAt e hc r.2⟩
end
def owG(S:St):List OwP->(St->Prop)->Prop
 |[],K=>K S
 |.t k::l,K=>match S.get k with
  |.c (.d (.sl true s []))=>S.m S.n=.non/\owG ⟨(k,.c (.msl s S.n 0 0))::S.t,upd S.m S.n (.arr s []),S.n+1⟩ l K
  |_=>False
 | .a k i::l,K=>match S.get k with
  |.ag cs=>match cs[i]? with
   |some (.d (.sl true s []))=>S.m S.n=.non/\owG ⟨(k,.ag (cs.set i (.msl s S.n 0 0)))::S.t,upd S.m S.n (.arr s []),S.n+1⟩ l K
   |_=>False
  |_=>False
 | .c b i::l,K=>match S.m b with
  |.box cs=>match cs[i]? with
   |some (.d (.sl true s []))=>S.m S.n=.non/\owG ⟨S.t,upd (upd S.m S.n (.arr s [])) b (.box (cs.set i (.msl s S.n 0 0))),S.n+1⟩ l K
   |_=>False
  |_=>False
@[simp] theorem zea{S:St}{K:St->Prop}:owG S [] K=K S:=(Eq.refl _).trans rfl
@[simp] theorem zta{S:St}{K:St->Prop}{k:Nat}{l:List OwP}:owG S (.t k::l) K=(match S.get k with
  |.c (.d (.sl true s []))=>S.m S.n=.non/\owG ⟨(k,.c (.msl s S.n 0 0))::S.t,upd S.m S.n (.arr s []),S.n+1⟩ l K
  |_=>False):=(Eq.refl _).trans rfl
@[simp] theorem zyn{S:St}{K:St->Prop}{b i:Nat}{l:List OwP}:owG S (.c b i::l) K=(match S.m b with
  |.box cs=>match cs[i]? with
   |some (.d (.sl true s []))=>S.m S.n=.non/\owG ⟨S.t,upd (upd S.m S.n (.arr s [])) b (.box (cs.set i (.msl s S.n 0 0))),S.n+1⟩ l K
   |_=>False
  |_=>False):=(Eq.refl _).trans rfl
theorem owG.mono{K K':St->Prop}:∀(l:List OwP) {S:St},owG S l K->(∀S',K S'->K' S')->owG S l K'
 |[],S,h,k=>k S h
 | .t i::l,S,h,k=>by
  unfold owG at h⊢
  split<;>rename_i q
  ·rename_i s
   rw[q]at h
   exact⟨h.1,owG.mono l h.2 k⟩
  ·split at h
   ·rename_i s e;exact(q s e).elim
   ·exact h
 | .a j i::l,S,h,k=>by
  unfold owG at h⊢
  split<;>rename_i q
  ·rename_i cs
   rw[q]at h
   simp only at h
   split<;>rename_i q'
   ·rename_i s
    rw[q']at h
    exact⟨h.1,owG.mono l h.2 k⟩
   ·split at h
    ·rename_i s e;exact(q' s e).elim
    ·exact h
  ·split at h
   ·rename_i s e;exact(q s e).elim
   ·exact h
 | .c b i::l,S,h,k=>by
  unfold owG at h⊢
  split<;>rename_i q
  ·rename_i cs
   rw[q]at h
   simp only at h
   split<;>rename_i q'
   ·rename_i s
    rw[q']at h
    exact⟨h.1,owG.mono l h.2 k⟩
   ·split at h
    ·rename_i s e;exact(q' s e).elim
    ·exact h
  ·split at h
   ·rename_i s e;exact(q s e).elim
   ·exact h
section
variable {P:Program} {c:Ctx} {S:St} {a:Act} {w:World}
theorem Rel.own0(R:Rel P c S.get S.m a w)(hn:S.m S.n=.non)(s:Nat):
  ∃(h:PH) (ρ:RM),HRel h ρ (upd S.m S.n (.arr s [])) w.heap/\zey c.h c.ρ c.m c.w.heap h ρ (upd S.m S.n (.arr s [])) w.heap/\Same c.w w/\(∀k,RepV h ρ (S.get k) (a.tmps.getD k undef))/\ρ S.n=some (0,0):=by
 obtain⟨h,ρ,H,S0,sm,r⟩:=R.ex
 obtain⟨K,T⟩:=H.none hn s
 exact⟨h,_,K,S0.trans T,sm,fun k=>RepV.mono T.hle T.rle _ _ (r k),upd_same _ _ _⟩
end
theorem AW.owq{P:Program}{c:Ctx}{mc:MC}{Q:Exit->St->Prop}:∀(l:List OwP) {S:St},owG S l (fun S'=>AW P c mc Q S')->AW P c (.owq mc) Q S
 |[],S,h=>fun code hc a w r=>h code (by simpa[chkC]using hc) a w r
 | .t k::l,S,h=>by
  unfold owG at h
  split at h
  ·rename_i s e
   have k:=AW.owq l h.2
   intro code hc a w r
   refine k code hc a w ?_
   obtain⟨hh,ρ,H,S0,sm,rr,e0⟩:=r.own0 h.1 s
   refine⟨r.gnd,r.defers,r.size,hh,ρ,H,S0,sm,fun j=>?_⟩
   show RepV hh ρ (look _ j) _
   simp only[look]
   split
   ·rename_i ej
    subst ej
    have:=rr j
    rw[e]at this
    simp only[RepV]at this⊢
    exact this.own e0
   ·exact rr j
  ·exact h.elim
 | .a k i::l,S,h=>by
  unfold owG at h
  split at h
  ·rename_i cs e
   split at h
   ·rename_i s e'
    have k:=AW.owq l h.2
    intro code hc a w r
    refine k code hc a w ?_
    obtain⟨hh,ρ,H,S0,sm,rr,e0⟩:=r.own0 h.1 s
    refine⟨r.gnd,r.defers,r.size,hh,ρ,H,S0,sm,fun j=>?_⟩
    show RepV hh ρ (look _ j) _
    simp only[look]
    split
    ·rename_i ej
     subst ej
     have:=rr j
     rw[e]at this
     simp only[RepV,List.length_set]at this⊢
     obtain⟨vs,r1,r2,r3⟩:=this
     exact⟨vs,r1,r2,r3.setAt e' fun v q=>q.own e0⟩
    ·exact rr j
   ·exact h.elim
  ·exact h.elim
 | .c b i::l,S,h=>by
  unfold owG at h
  split at h
  ·rename_i cs e
   split at h
   ·rename_i s e'
    have k:=AW.owq l h.2
    intro code hc a w r
    refine k code hc a w ?_
    obtain⟨hh,ρ,H,S0,sm,rr,e0⟩:=r.own0 h.1 s
    have hne:b≠S.n:=fun q=>by rw[q,h.1]at e;cases e
    have hb:upd S.m S.n (.arr s []) b=.box cs:=by rw[upd_ne _ _ hne];exact e
    have hρ:ρ b≠none:=fun q=>by have:=(H.dom b).2 q;rw[hb]at this;cases this
    obtain⟨p,ep⟩:=Option.ne_none_iff_exists'.1 hρ
    have hB:=H.own b p ep
    rw[hb]at hB
    obtain⟨vs,T,r1,r2,r3⟩:=hB
    obtain⟨K,T⟩:=H.reblk (blk:=.box (cs.set i (.msl s S.n 0 0))) ep (by simp) (by rw[hb];exact Iff.rfl) ⟨vs,T,r1,by simpa using r2,r3.setAt e' fun v q=>q.own e0⟩
    exact⟨r.gnd,r.defers,r.size,hh,ρ,K,S0.trans T,sm,rr⟩
   ·exact h.elim
  ·exact h.elim
end Go.Abs
namespace Go.Abs
def gd(b want:Bool)(A B:Prop):Prop:=(b=want->A)/\(b=(!want)->B)
@[simp↓] theorem zAl (A B:Prop):gd true true A B=A:=by simp[gd]
@[simp↓] theorem zCe (A B:Prop):gd false false A B=A:=by simp[gd]
@[simp↓] theorem zCf (A B:Prop):gd true false A B=B:=by simp[gd]
@[simp↓] theorem zAm (A B:Prop):gd false true A B=B:=by simp[gd]
theorem gd.mk{b want:Bool}{A B:Prop}(h1:b=want->A)(h2:b=(!want)->B):gd b want A B:=⟨h1,h2⟩
structure Tag {α:Type} (a:α):Type where
 mk::
def zac(P:Program)(f:FuncId)(ds:List DV)(K:DV->Prop)(_:Tag K):Prop:=∃v,PCall P f ds v/\K v
theorem zac.mk{P:Program}{f:FuncId}{ds:List DV}{K:DV->Prop}{t:Tag K}{v:DV}(h:PCall P f ds v)(k:K v):zac P f ds K t:=⟨v,h,k⟩
def isB(q:Value->Prop):Prop:=∀v,q v->zfU v
@[simp] theorem zA1:isB zfU:=fun _ h=>h
def W(P:Program)(c:Ctx):MC->(Exit->St->Prop)->St->Prop
 |.skip,Q,S=>Q .normal S
 |.reg os,Q,S=>runO P os S (fun S'=>Q .normal S')
 |.regd bef os,Q,S=>runD P os S [] (fun S' fps=>zmd bef fps=true/\Q .normal S')
 |.seq a b,Q,S=>W P c a (zdp (W P c b Q) Q) S
 |.cond (.t k) a b,Q,S=>match S.get k with
  |.c (.d (.bool t))=>gd t true (W P c a Q (S.know k true)) (W P c b Q (S.know k false))
  |.c (.op q)=>isB q/\W P c a Q S/\W P c b Q S
  |_=>False
 |.cond (.k _) _ _,_,_=>False
 |.block i b,Q,S=>W P c b (zdR i Q) S
 |.loop b,Q,S=>AW P c (.loop b) Q S
 |.exit i,Q,S=>Q (.exit i) S
 |.ret,Q,S=>Q .ret S
 |.fzq a,Q,S=>∃l,fzG S l fun S'=>W P c a Q S'
 |.owq a,Q,S=>∃l,owG S l fun S'=>W P c a Q S'
theorem W.aw{P:Program}{c:Ctx}(hm:P.follows .mixedOrders=true):∀{mc:MC} {Q:Exit->St->Prop} {S:St},W P c mc Q S->AW P c mc Q S
 |.skip,Q,S,h=>AW.skip h
 |.reg os,Q,S,h=>AW.reg h
 |.regd bef os,Q,S,h=>AW.regd hm h
 | .seq a b,Q,S,h=>AW.seq ((show AW P c a (zdp (W P c b Q) Q) S from W.aw hm h).mono (Q':=zdp (AW P c b Q) Q) fun e S' q=>by
   cases e with
   |normal=>exact W.aw hm q
   |_=>exact q)
 | .cond (.t k) a b,Q,S,h=>by
  simp only[W]at h
  split at h
  ·rename_i t e
   refine AW.cond (x:=.t k) e (fun ht=>?_) (fun ht=>?_)
   ·have h1:=W.aw hm (h.1 ht)
    intro code hc ac w r
    rw[ht]at e
    exact h1 code hc ac w (by rw[St.know_get e];exact r)
   ·have h1:=W.aw hm (h.2 (by simpa using ht))
    intro code hc ac w r
    rw[ht]at e
    exact h1 code hc ac w (by rw[St.know_get e];exact r)
  ·rename_i q e
   exact AW.condU (x:=.t k) e h.1 (W.aw hm h.2.1) (W.aw hm h.2.2)
  ·exact h.elim
 |.cond (.k x) a b,Q,S,h=>False.elim h
 |.block i b,Q,S,h=>AW.block (W.aw hm h)
 |.loop b,Q,S,h=>h
 |.exit i,Q,S,h=>AW.exit h
 |.ret,Q,S,h=>AW.ret h
 |.fzq a,Q,S,h=>by
  obtain⟨l,h⟩:=h
  exact AW.fzq l (fzG.mono l h fun S' k=>W.aw hm k)
 |.owq a,Q,S,h=>by
  obtain⟨l,h⟩:=h
  exact AW.owq l (owG.mono l h fun S' k=>W.aw hm k)
def fzK(S:St)(K:St->Prop)(_:Tag K):Prop:=∃l,fzG S l K
def owK(S:St)(K:St->Prop)(_:Tag K):Prop:=∃l,owG S l K
theorem owK.mk{S:St}{K:St->Prop}{g:Tag K}(l:List OwP)(h:owG S l K):owK S K g:=⟨l,h⟩
theorem fzK.mk{S:St}{K:St->Prop}{g:Tag K}(l:List Nat)(h:fzG S l K):fzK S K g:=⟨l,h⟩
def w_(P:Program)(c:Ctx)(mc:MC)(Q:Exit->St->Prop)(_:Tag (mc,Q))(S:St):Prop:=W P c mc Q S
def lw_(P:Program)(c:Ctx)(mc:MC)(Q:Exit->St->Prop)(_:Tag (mc,Q))(S:St):Prop:=AW P c (.loop mc) Q S
def rO(P:Program)(os:List MO)(K:St->Prop)(_:Tag (os,K))(S:St):Prop:=runO P os S K
def rD(P:Program)(os:List MO)(K:St->List FP->Prop)(_:Tag (os,K))(S:St)(fps:List FP):Prop:=runD P os S fps K
def eV(P:Program)(K:AV->List Nat->List (Nat × Blk)->Nat->Prop)(op:MOp)(_:Tag (op,K))(get:Nat->AV)(m:Hp)(n:Nat):Prop:=ev P get m n K op
def Next{Y:Type}(I:Y->Prop)(t:Y->List (Nat × AV))(bs:Y->List Blk)(μ:Y->Nat)(x:Y)(_:Tag (I,t,bs,μ,x))(S:St):Prop:=∃x' l,I x'/\Match l S (t x') (bs x')/\μ x'<μ x
theorem Next.mk{Y:Type}{I:Y->Prop}{t:Y->List (Nat × AV)}{bs:Y->List Blk}{μ:Y->Nat}{x:Y}{g:Tag (I,t,bs,μ,x)}{S:St}(x':Y)(l:List Nat)(h1:I x')(h2:μ x'<μ x)(h3:Match l S (t x') (bs x')):Next I t bs μ x g S:=⟨x',l,h1,h3,h2⟩
theorem W.loop{P:Program}{c:Ctx}{Q:Exit->St->Prop}{S:St}{Y:Type}(hm:P.follows .mixedOrders=true)(hp:c.pure){body:MC}{g:Tag (body,Q)}(I:Y->Prop)(t:Y->List (Nat × AV))(bs:Y->List Blk)(μ:Y->Nat)(x0:Y)(l0:List Nat)(hI:I x0)(h0:Match l0 S (t x0) (bs x0))
  (round:∀x,I x->w_ P c body (zdp (Next I t bs μ x ⟨⟩) Q) ⟨⟩ (hd (t x) (bs x))):lw_ P c body Q g S:=
 AW.loop hp I t bs μ hI h0 fun x hx=>W.aw hm (round x hx)
section
variable {P:Program} {c:Ctx} {Q:Exit->St->Prop} {S:St}
theorem zso{mc:MC}(h:w_ P c mc Q ⟨⟩ S):W P c mc Q S:=h
@[simp] theorem zBZ{g}:w_ P c .skip Q g S=Q .normal S:=(Eq.refl _).trans rfl
@[simp] theorem zCg(os:List MO){g}:w_ P c (.reg os) Q g S=rO P os (fun S'=>Q .normal S') ⟨⟩ S:=(Eq.refl _).trans rfl
@[simp] theorem zB0(bef:List Nat)(os:List MO){g}:w_ P c (.regd bef os) Q g S=rD P os (fun S' fps=>zmd bef fps=true/\Q .normal S') ⟨⟩ S []:=(Eq.refl _).trans rfl
@[simp] theorem zCh(a b:MC){g}:w_ P c (.seq a b) Q g S=w_ P c a (zdp (w_ P c b Q ⟨⟩) Q) ⟨⟩ S:=(Eq.refl _).trans rfl
@[simp] theorem zB1(k:Nat)(a b:MC){g}:w_ P c (.cond (.t k) a b) Q g S=(match S.get k with
  |.c (.d (.bool t))=>gd t true (w_ P c a Q ⟨⟩ (S.know k true)) (w_ P c b Q ⟨⟩ (S.know k false))
  |.c (.op q)=>isB q/\w_ P c a Q ⟨⟩ S/\w_ P c b Q ⟨⟩ S
  |_=>False):=(Eq.refl _).trans rfl
@[simp] theorem zBu(i:Nat)(b:MC){g}:w_ P c (.block i b) Q g S=w_ P c b (zdR i Q) ⟨⟩ S:=(Eq.refl _).trans rfl
@[simp] theorem zB2(b:MC){g}:w_ P c (.loop b) Q g S=lw_ P c b Q ⟨⟩ S:=(Eq.refl _).trans rfl
@[simp] theorem zB3(i:Nat){g}:w_ P c (.exit i) Q g S=Q (.exit i) S:=(Eq.refl _).trans rfl
@[simp] theorem zCi(a:MC){g}:w_ P c (.fzq a) Q g S=fzK S (fun S'=>w_ P c a Q ⟨⟩ S') ⟨⟩:=(Eq.refl _).trans rfl
@[simp] theorem zCj(a:MC){g}:w_ P c (.owq a) Q g S=owK S (fun S'=>w_ P c a Q ⟨⟩ S') ⟨⟩:=(Eq.refl _).trans rfl
@[simp] theorem zCk{g}:w_ P c .ret Q g S=Q .ret S:=(Eq.refl _).trans rfl
@[simp] theorem zB4(K:St->Prop){g}:rO P [] K g S=K S:=(Eq.refl _).trans rfl
@[simp] theorem zBv(d:Option Nat)(op:MOp)(os:List MO)(K:St->Prop){g}:rO P (⟨none,d,op⟩::os) K g S=eV P (fun v _ wr n=>rO P os K ⟨⟩ (S.put d v wr n)) op ⟨⟩ S.get S.m S.n:=(Eq.refl _).trans rfl
@[simp] theorem zBw(t:Nat)(want:Bool)(d:Option Nat)(op:MOp)(os:List MO)(K:St->Prop){g}:rO P (⟨some (t,want),d,op⟩::os) K g S=(match S.get t with
   |.c (.d (.bool b))=>gd b want (rO P (⟨none,d,op⟩::os) K ⟨⟩ (S.know t want)) (rO P os K ⟨⟩ ((S.know t (!want)).put d zb0 [] S.n))
   |.c (.d (.sc (.tuple _)))=>rO P os K ⟨⟩ (S.put d zb0 [] S.n)
   |_=>False):=(Eq.refl _).trans rfl
@[simp] theorem zB5(fps:List FP)(K:St->List FP->Prop){g}:rD P [] K g S fps=K S fps.reverse:=(Eq.refl _).trans rfl
@[simp] theorem zBx(d:Option Nat)(op:MOp)(os:List MO)(fps:List FP)(K:St->List FP->Prop){g}:rD P (⟨none,d,op⟩::os) K g S fps=eV P (fun v rd wr n=>rD P os K ⟨⟩ (S.put d v wr n) ((rd,wr.map (·.1))::fps)) op ⟨⟩ S.get S.m S.n:=(Eq.refl _).trans rfl
@[simp] theorem zBy(t:Nat)(want:Bool)(d:Option Nat)(op:MOp)(os:List MO)(fps:List FP)(K:St->List FP->Prop){g}:rD P (⟨some (t,want),d,op⟩::os) K g S fps=(match S.get t with
   |.c (.d (.bool b))=>gd b want (rD P (⟨none,d,op⟩::os) K ⟨⟩ (S.know t want) fps) (rD P os K ⟨⟩ ((S.know t (!want)).put d zb0 [] S.n) (([],[])::fps))
   |.c (.d (.sc (.tuple _)))=>rD P os K ⟨⟩ (S.put d zb0 [] S.n) (([],[])::fps)
   |_=>False):=(Eq.refl _).trans rfl
end
@[simp] theorem St.get_mk(t:List (Nat × AV))(m:Hp)(n k:Nat):St.get ⟨t,m,n⟩ k=look t k:=(Eq.refl _).trans rfl
@[simp] theorem St.get_eta(t:List (Nat × AV))(m:Hp)(n:Nat):St.get ⟨t,m,n⟩=look t:=(Eq.refl _).trans rfl
@[simp] theorem St.put_some(t:List (Nat × AV))(m:Hp)(n d:Nat)(v:AV)(wr:List (Nat × Blk))(n':Nat):St.put ⟨t,m,n⟩ (some d) v wr n'=⟨(d,v)::t,wrs m wr,n'⟩:=(Eq.refl _).trans rfl
@[simp] theorem St.put_none(t:List (Nat × AV))(m:Hp)(n:Nat)(v:AV)(wr:List (Nat × Blk))(n':Nat):St.put ⟨t,m,n⟩ none v wr n'=⟨t,wrs m wr,n'⟩:=(Eq.refl _).trans rfl
@[simp] theorem St.know_mk(t:List (Nat × AV))(m:Hp)(n k:Nat)(b:Bool):St.know ⟨t,m,n⟩ k b=⟨(k,.c (.d (.bool b)))::t,m,n⟩:=(Eq.refl _).trans rfl
@[simp] theorem look_nil(k:Nat):look [] k=.c (.d .any):=(Eq.refl _).trans rfl
@[simp] theorem zcI(j k:Nat)(v:AV)(t:List (Nat × AV)):look ((j,v)::t) k=if k=j then v else look t k:=(Eq.refl _).trans rfl
@[simp] theorem X_t(get:Nat->AV)(k:Nat):X get (.t k)=get k:=(Eq.refl _).trans rfl
@[simp] theorem X_k(get:Nat->AV)(x:D):X get (.k x)=.c (.d x):=(Eq.refl _).trans rfl
@[simp] theorem zBz(m:Hp):wrs m []=m:=(Eq.refl _).trans rfl
@[simp] theorem zA2(m:Hp)(k:Nat)(v:Blk)(l:List (Nat × Blk)):wrs m ((k,v)::l)=wrs (upd m k v) l:=(Eq.refl _).trans rfl
@[simp] theorem zfa(m:Hp)(k:Nat)(v:Blk)(j:Nat):upd m k v j=if j=k then v else m j:=(Eq.refl _).trans rfl
@[simp↓] theorem zzF (K:St->Prop) (Q:Exit->St->Prop) (S:St):zdp K Q .normal S=K S:=(Eq.refl _).trans rfl
@[simp↓] theorem zAn (K:St->Prop) (Q:Exit->St->Prop) (i:Nat) (S:St):zdp K Q (.exit i) S=Q (.exit i) S:=(Eq.refl _).trans rfl
@[simp↓] theorem zAN (K:St->Prop) (Q:Exit->St->Prop) (S:St):zdp K Q .ret S=Q .ret S:=(Eq.refl _).trans rfl
@[simp↓] theorem zzp (i:Nat) (Q:Exit->St->Prop) (S:St):zdR i Q .normal S=Q .normal S:=(Eq.refl _).trans rfl
@[simp↓] theorem zAo (i:Nat) (Q:Exit->St->Prop) (S:St):zdR i Q .ret S=Q .ret S:=(Eq.refl _).trans rfl
@[simp↓] theorem zAc (i j:Nat) (Q:Exit->St->Prop) (S:St):zdR i Q (.exit j) S=if j=i then Q .normal S else Q (.exit j) S:=(Eq.refl _).trans rfl
@[simp] theorem zA3:(undef:Value)=.tuple #[]:=rfl
attribute [simp] argT DV.av DV.avs toDV toDVs allD zb6 cellsD rowD rowC zgF zb0 evI evS evB
attribute [simp] DV.er DV.ers splice
@[simp] theorem zAO(f:Nat->Nat):AC.rens f∘List.map AC.d=List.map AC.d:=by funext x;simp
@[simp] theorem lts_comp(n:Nat):AC.lts n∘List.map AC.d=fun _=>true:=by funext x;simp
@[simp] theorem D.er_int(k:IntKind)(n:Int):(D.int k n).er=.int k n:=rfl
@[simp] theorem D.er_bool(b:Bool):(D.bool b).er=.bool b:=rfl
@[simp] theorem D.er_str(b:ByteArray):(D.str b).er=.str b:=rfl
@[simp] theorem D.er_sl(x:Bool)(s:Nat)(es:List (List D)):(D.sl x s es).er=.sl false s es:=rfl
@[simp] theorem D.er_fn(f:Fn)(c:List D):(D.fn f c).er=.fn f c:=rfl
@[simp] theorem D.er_rp(cs:List D)(o:Nat):(D.rp cs o).er=.rp cs o:=rfl
@[simp] theorem D.er_sc(v:Value):(D.sc v).er=.sc v:=rfl
@[simp] theorem AC.one_d(d:D):(AC.d d).one=d.one:=rfl
@[simp] theorem AC.one_ptr(b o:Nat):(AC.ptr b o).one=true:=rfl
@[simp] theorem AC.one_ept(s b i o:Nat):(AC.ept s b i o).one=true:=rfl
@[simp] theorem AC.one_msl(s b o l:Nat):(AC.msl s b o l).one=true:=rfl
@[simp] theorem D.one_int(k:IntKind)(n:Int):(D.int k n).one=true:=rfl
@[simp] theorem D.one_bool(b:Bool):(D.bool b).one=true:=rfl
@[simp] theorem D.one_str(b:ByteArray):(D.str b).one=true:=rfl
@[simp] theorem D.one_sl(x:Bool)(s:Nat)(es:List (List D)):(D.sl x s es).one=true:=rfl
@[simp] theorem D.one_fn(f:Fn)(c:List D):(D.fn f c).one=true:=rfl
@[simp] theorem D.one_rp(cs:List D)(o:Nat):(D.rp cs o).one=true:=rfl
@[simp] theorem zBA{α:Type}(cs:List α)(n:Nat)(h:cs.length=n):cut cs 0 n=cs:=by simp[cut,h]
@[simp] theorem zBB{α:Type}(cs l:List α)(h:l.length=cs.length):put cs 0 l=l:=by simp[put,h]
@[simp] theorem zA4{α:Type}(c:α)(cs:List α)(o:Nat)(l:List α):put (c::cs) o l=if o=0/\l.length=(c::cs).length then l else splice (c::cs) o l:=(Eq.refl _).trans rfl
theorem wrap_i64{n:Int}(h1: -9223372036854775808<=n)(h2:n<=9223372036854775807):IntKind.i64.wrap n=n:=znq (by simpa[IntKind.min,IntKind.bits,IntKind.signed]using h1) (by simpa[IntKind.max,IntKind.bits,IntKind.signed]using h2)
theorem zsp:IntKind.i64.min= -9223372036854775808:=by simp[IntKind.min,IntKind.bits,IntKind.signed]
theorem zsq:IntKind.i64.max=9223372036854775807:=by simp[IntKind.max,IntKind.bits,IntKind.signed]
@[simp] theorem zA5(n:Nat):hpOf [] n=.non:=by simp[hpOf]
@[simp] theorem zfb(b:Blk)(bs:List Blk):hpOf (b::bs) 0=b:=by simp[hpOf]
@[simp] theorem zfc(b:Blk)(bs:List Blk)(n:Nat):hpOf (b::bs) (n+1)=hpOf bs n:=by simp[hpOf]
@[simp] theorem zCl(t:List (Nat × AV))(bs:List Blk):hd t bs=⟨t,hpOf bs,bs.length⟩:=(Eq.refl _).trans rfl
attribute [simp] Match tAll mAll fOf AV.ren AV.lt AC.ren AC.lt AC.rens AC.lts AV.rens AV.lts Blk.ren Blk.lt
attribute [simp] zgE one? frzV zfP frzC zc7 zbb
def ldD_(ag:Bool)(sz:Nat)(cs:List D)(off:Nat)(K:AV->Prop)(_:Tag K):Prop:=ldD ag sz cs off K
def ldC_(ag:Bool)(sz:Nat)(cs:List AC)(off:Nat)(K:AV->Prop)(_:Tag K):Prop:=ldC ag sz cs off K
def bnd_(get:Nat->AV)(d:Nat)(K:Nat->Prop)(_:Tag K)(o:Option MX):Prop:=bnd get d K o
def zpm(get:Nat->AV)(m:Hp)(s:Nat)(K:List (List AC)->List Nat->Prop)(_:Tag K)(y:MX):Prop:=srcs get m s K y
def ztr(S:St)(K:AV->Prop)(_:Tag K)(r:MR):Prop:=resK S K r
def zhu(S:St)(rs:List MR)(K:List AV->Prop)(_:Tag K):Prop:=zgU S rs K
@[simp] theorem zCm(sz:Nat)(cs:List D)(off:Nat)(K:AV->Prop){g}:ldD_ true sz cs off K g=(off+sz<=cs.length/\K (.ag ((cut cs off sz).map .d))):=(Eq.refl _).trans rfl
@[simp] theorem zCn(sz:Nat)(cs:List D)(off:Nat)(K:AV->Prop){g}:ldD_ false sz cs off K g=(match cs[off]? with|some c=>K (.c (.d c))|none=>False):=(Eq.refl _).trans rfl
@[simp] theorem zCo(sz:Nat)(cs:List AC)(off:Nat)(K:AV->Prop){g}:ldC_ true sz cs off K g=(off+sz<=cs.length/\K (.ag (cut cs off sz))):=(Eq.refl _).trans rfl
@[simp] theorem zCp(sz:Nat)(cs:List AC)(off:Nat)(K:AV->Prop){g}:ldC_ false sz cs off K g=(match cs[off]? with|some c=>K (.c c)|none=>False):=(Eq.refl _).trans rfl
@[simp] theorem zA6(get:Nat->AV)(d:Nat)(K:Nat->Prop){g}:bnd_ get d K g none=K d:=(Eq.refl _).trans rfl
@[simp] theorem zA7(get:Nat->AV)(d:Nat)(K:Nat->Prop){g}(x:MX):bnd_ get d K g (some x)=(match X get x with|.c (.d (.int _ j))=>0<=j/\K j.toNat|_=>False):=(Eq.refl _).trans rfl
@[simp] theorem zBC(get:Nat->AV)(m:Hp)(s:Nat)(K:List (List AC)->List Nat->Prop){g}(y:MX):zpm get m s K g y=(match X get y with
 |.c (.d (.sl _ s' ys))=>s=s'/\K (ys.map (·.map .d)) []
 |.c (.msl s' b off len)=>match m b with
  |.arr s'' es=>s=s'/\s=s''/\off+len<=es.length/\K ((es.drop off).take len) [b]
  |_=>False
 |_=>False):=(Eq.refl _).trans rfl
@[simp] theorem zA8(rs:List MR)(v:DV)(S:St):endQ rs v .ret S=zhu S rs (fun vs=>(frzV S.m (one? vs)).map DV.er=some v) ⟨⟩:=(Eq.refl _).trans rfl
@[simp] theorem zA9(S:St)(K:AV->Prop){g}(t:Nat):ztr S K g (.tmp t)=K (S.get t):=(Eq.refl _).trans rfl
@[simp] theorem zAP(S:St)(K:AV->Prop){g}(t:Nat)(ag:Bool)(sz:Nat):ztr S K g (.cell t ag sz)=(match S.get t with
  |.c (.d (.rp cs off))=>ldD_ ag sz cs off K ⟨⟩
  |.c (.ptr b off)=>match S.m b with
   |.box cs=>ldC_ ag sz cs off K ⟨⟩
   |_=>False
  |_=>False):=(Eq.refl _).trans rfl
@[simp] theorem zAQ(S:St)(K:List AV->Prop){g}:zhu S [] K g=K []:=(Eq.refl _).trans rfl
@[simp] theorem zAp(S:St)(r:MR)(rs:List MR)(K:List AV->Prop){g}:zhu S (r::rs) K g=ztr S (fun v=>zhu S rs (fun vs=>K (v::vs)) ⟨⟩) ⟨⟩ r:=(Eq.refl _).trans rfl
section
variable {P:Program} {get:Nat->AV} {m:Hp} {n:Nat} {K:AV->List Nat->List (Nat × Blk)->Nat->Prop}
@[simp] theorem zCq(x:MX){g}:eV P K (.mv x) g get m n=K (X get x) [] [] n:=(Eq.refl _).trans rfl
@[simp] theorem zBD(c a b:MX){g}:eV P K (.pick c a b) g get m n=match X get c with
  |.c (.d (.bool t))=>gd t true (K (X get a) [] [] n) (K (X get b) [] [] n)
  |_=>False:=(Eq.refl _).trans rfl
@[simp] theorem zBE(op:BinOp)(x:MX)(y:MX){g}:eV P K (.binI op x y) g get m n=(match X get x,X get y with
  |.c (.d (.int k a)),.c (.d (.int k' b))=>k=k'/\(match evI op k a b with|some d=>K (.c (.d d)) [] [] n|none=>False)
  |_,_=>False):=(Eq.refl _).trans rfl
@[simp] theorem zBF(op:BinOp)(x:MX)(y:MX){g}:eV P K (.binS op x y) g get m n=(match X get x,X get y with
  |.c (.d (.str a)),.c (.d (.str b))=>(match evS op a b with|some d=>K (.c (.d d)) [] [] n|none=>False)
  |_,_=>False):=(Eq.refl _).trans rfl
@[simp] theorem zB6(x:MX)(y:MX){g}:eV P K (.cat x y) g get m n=(match X get x,X get y with
  |.c (.d (.str a)),.c (.d (.str b))=>a.size+b.size<=zah/\K (.c (.d (.str (a++b)))) [] [] n
  |_,_=>False):=(Eq.refl _).trans rfl
@[simp] theorem zBG(op:BinOp)(x:MX)(y:MX){g}:eV P K (.binB op x y) g get m n=(match X get x,X get y with
  |.c (.d (.bool a)),.c (.d (.bool b))=>(match evB op a b with|some d=>K (.c (.d d)) [] [] n|none=>False)
  |_,_=>False):=(Eq.refl _).trans rfl
@[simp] theorem zB7(x:MX){g}:eV P K (.not x) g get m n=(match X get x with
  |.c (.d (.bool a))=>K (.c (.d (.bool (!a)))) [] [] n
  |_=>False):=(Eq.refl _).trans rfl
@[simp] theorem zBa(k:IntKind)(x:MX){g}:eV P K (.convI k x) g get m n=(match X get x with
  |.c (.d (.int _ a))=>K (.c (.d (.int k (k.wrap a)))) [] [] n
  |_=>False):=(Eq.refl _).trans rfl
@[simp] theorem zBH(x:MX){g}:eV P K (.boxP x) g get m n=(match cellsD (X get x)with
  |some ds=>K (.c (.d (.rp ds 0))) [] [] n
  |none=>False):=(Eq.refl _).trans rfl
@[simp] theorem zBI(x:MX){g}:eV P K (.boxM x) g get m n=(match zb6 (X get x)with
  |some cs=>m n=.non/\K (.c (.ptr n 0)) [] [(n,.box cs)] (n+1)
  |none=>False):=(Eq.refl _).trans rfl
@[simp] theorem zBb(z:List D){g}:eV P K (.alloc z) g get m n=(m n=.non/\K (.c (.ptr n 0)) [] [(n,.box (z.map .d))] (n+1)):=(Eq.refl _).trans rfl
@[simp] theorem zBc(z:List D)(ps:List (Nat × Nat × MX)){g}:eV P K (.build z ps) g get m n=(match zgE get (z.map .d) ps with
  |some cs=>K (.ag cs) [] [] n
  |none=>False):=(Eq.refl _).trans rfl
@[simp] theorem zAq(s:Nat)(xs:List MX){g}:eV P K (.buildSl s xs) g get m n=(match rowD get s xs with
  |some es=>K (.c (.d (.sl true s es))) [] [] n
  |none=>False):=(Eq.refl _).trans rfl
@[simp] theorem zAd(s:Nat)(xs:List MX){g}:eV P K (.buildSlM s xs) g get m n=(match rowC get s xs with
  |some es=>m n=.non/\K (.c (.msl s n 0 xs.length)) [] [(n,.arr s es)] (n+1)
  |none=>False):=(Eq.refl _).trans rfl
@[simp] theorem zBJ(ag:Bool)(sz:Nat)(x:MX){g}:eV P K (.load ag sz x) g get m n=(match X get x with
  |.c (.d (.rp cs off))=>ldD_ ag sz cs off (fun v=>K v [] [] n) ⟨⟩
  |.c (.ptr b off)=>match m b with
   |.box cs=>ldC_ ag sz cs off (fun v=>K v [b] [] n) ⟨⟩
   |_=>False
  |.c (.ept s b i off)=>match m b with
   |.arr s' es=>s=s'/\(match es[i]? with|some e=>ldC_ ag sz e off (fun v=>K v [b] [] n) ⟨⟩|none=>False)
   |_=>False
  |_=>False):=(Eq.refl _).trans rfl
@[simp] theorem zBd(sz:Nat)(a:MX)(v:MX){g}:eV P K (.store sz a v) g get m n=(match X get a,zb6 (X get v)with
  |.c (.ptr b off),some l=>match m b with
   |.box cs=>l.length=sz/\off+sz<=cs.length/\K (.c (.d .any)) [] [(b,.box (put cs off l))] n
   |_=>False
  |.c (.ept s b i off),some l=>match m b with
   |.arr s' es=>s=s'/\l.length=sz/\off+sz<=s/\(match es[i]? with|some e=>K (.c (.d .any)) [] [(b,.arr s (es.set i (put e off l)))] n|none=>False)
   |_=>False
  |_,_=>False):=(Eq.refl _).trans rfl
@[simp] theorem zBe(off:Nat)(x:MX){g}:eV P K (.faddr off x) g get m n=(match X get x with
  |.c (.ptr b o)=>K (.c (.ptr b (o+off))) [] [] n
  |.c (.ept s b i o)=>K (.c (.ept s b i (o+off))) [] [] n
  |.c (.d (.rp cs o))=>K (.c (.d (.rp cs (o+off)))) [] [] n
  |_=>False):=(Eq.refl _).trans rfl
@[simp] theorem zAR(s:Nat)(x:MX)(i:MX){g}:eV P K (.iaddrS s x i) g get m n=(match X get x,X get i with
  |.c (.d (.sl _ s' es)),.c (.d (.int _ j))=>s=s'/\0<=j/\(match es[j.toNat]? with|some e=>K (.c (.d (.rp e 0))) [] [] n|none=>False)
  |.c (.msl s' b off len),.c (.d (.int _ j))=>s=s'/\0<=j/\j<len/\K (.c (.ept s b (off+j.toNat) 0)) [] [] n
  |_,_=>False):=(Eq.refl _).trans rfl
@[simp] theorem zBK(x:MX)(i:MX){g}:eV P K (.idxS x i) g get m n=(match X get x,X get i with
  |.c (.d (.str t)),.c (.d (.int _ j))=>0<=j/\(match t.data.toList[j.toNat]? with|some b=>K (.c (.d (.int .u8 b.toNat))) [] [] n|none=>False)
  |_,_=>False):=(Eq.refl _).trans rfl
@[simp] theorem zB8(x:MX){g}:eV P K (.len x) g get m n=(match X get x with
  |.c (.d (.sl _ _ es))=>K (.c (.d (.int .i64 es.length))) [] [] n
  |.c (.msl _ b off l)=>match m b with
   |.arr _ es=>off+l<=es.length/\K (.c (.d (.int .i64 l))) [b] [] n
   |_=>False
  |_=>False):=(Eq.refl _).trans rfl
@[simp] theorem zBL(x:MX){g}:eV P K (.lenS x) g get m n=(match X get x with
  |.c (.d (.str t))=>K (.c (.d (.int .i64 t.size))) [] [] n
  |_=>False):=(Eq.refl _).trans rfl
@[simp] theorem zBf(x:MX){g}:eV P K (.nilck x) g get m n=(match X get x with
  |.c (.ptr b o)=>K (.c (.ptr b o)) [] [] n
  |.c (.ept s b i o)=>K (.c (.ept s b i o)) [] [] n
  |.c (.d (.rp cs o))=>K (.c (.d (.rp cs o))) [] [] n
  |_=>False):=(Eq.refl _).trans rfl
@[simp] theorem zAr(x:MX)(i:Nat){g}:eV P K (.extract x i) g get m n=(match X get x with
  |.tup vs=>match vs[i]? with
   |some v=>K v [] [] n
   |none=>False
  |_=>False):=(Eq.refl _).trans rfl
@[simp] theorem zBg(s:Nat)(x:MX)(lo:Option MX)(hi:Option MX){g}:eV P K (.slice s x lo hi) g get m n=(match X get x with
  |.c (.d (.sl e s' es))=>s=s'/\bnd_ get es.length (fun h=>bnd_ get 0 (fun l=>l<=h/\h<=es.length/\K (.c (.d (.sl (e&&hi.isNone) s ((es.take h).drop l)))) [] [] n) ⟨⟩ lo) ⟨⟩ hi
  |.c (.msl s' b off len)=>s=s'/\bnd_ get len (fun h=>bnd_ get 0 (fun l=>l<=h/\h<=len/\K (.c (.msl s b (off+l) (h-l))) [] [] n) ⟨⟩ lo) ⟨⟩ hi
  |_=>False):=(Eq.refl _).trans rfl
@[simp] theorem zAS(x:MX)(lo:Option MX)(hi:Option MX){g}:eV P K (.sliceS x lo hi) g get m n=(match X get x with
  |.c (.d (.str t))=>bnd_ get t.size (fun h=>bnd_ get 0 (fun l=>l<=h/\h<=t.size/\K (.c (.d (.str (t.extract l h)))) [] [] n) ⟨⟩ lo) ⟨⟩ hi
  |_=>False):=(Eq.refl _).trans rfl
@[simp] theorem zAT(s:Nat)(bytes:Nat)(x:MX)(y:MX){g}:eV P K (.append s bytes x y) g get m n=(match X get x with
  |.c (.msl s' b off len)=>match m b with
   | .arr s'' es=>s=s'/\s=s''/\off=0/\len<=es.length/\m n=.non/\zpm get m s (fun ys rd=>(len+ys.length)*bytes<=70368744177664/\(rd=[]\/rd=[b]\/b∉rd)/\
     K (.c (.msl s n 0 (len+ys.length))) rd [(b,.dead),(n,.arr s (es.take len++ys))] (n+1)) ⟨⟩ y
   |_=>False
  |.c (.d (.sl true s' []))=>m n=.non/\zpm get m s (fun ys rd=>ys.length*bytes<=70368744177664/\K (.c (.msl s n 0 ys.length)) rd [(n,.arr s ys)] (n+1)) ⟨⟩ y
  |.c (.d (.sl true s' (e::es)))=>s=s'/\m n=.non/\zpm get m s (fun ys rd=>(ys=[]->K (.c (.d (.sl true s (e::es)))) rd [] (n+1))/\(ys≠[]->((e::es).length+ys.length)*bytes<=70368744177664/\K (.c (.msl s n 0 ((e::es).length+ys.length))) rd [(n,.arr s ((e::es).map (·.map .d)++ys))] (n+1))) ⟨⟩ y
  |_=>False):=(Eq.refl _).trans rfl
@[simp] theorem zBM(f:FuncId)(caps:List MX){g}:eV P K (.mkfn f caps) g get m n=(match zgF get caps with
  |some cs=>match allD cs with
   |some ds=>K (.c (.d (.fn (.func f) ds))) [] [] n
   |none=>K (.c (.fn (.func f) cs)) [] [] n
  |none=>False):=(Eq.refl _).trans rfl
@[simp] theorem zBN(f:FuncId)(xs:List MX){g}:eV P K (.call f xs) g get m n=(match toDVs (xs.map (X get))with
  |some ds=>zac P f ds (fun v=>K v.av [] [] n) ⟨⟩
  |none=>False):=(Eq.refl _).trans rfl
@[simp] theorem zBh(ne:Bool)(x:MX){g}:eV P K (.isNil ne x) g get m n=(match X get x with
  |.c (.d (.sl _ _ (_::_)))=>K (.c (.d (.bool ne))) [] [] n
  |.c (.d (.sl _ _ []))=>K (.c (.op zfU)) [] [] n
  |_=>False):=(Eq.refl _).trans rfl
@[simp] theorem zBi{g}:eV P K (.mkmap) g get m n=(m n=.non/\K (.c (.map n)) [] [(n,.map [])] (n+1)):=(Eq.refl _).trans rfl
@[simp] theorem zBj(kk:Nat)(ok ag:Bool)(z:List D)(x k:MX){g}:eV P K (.mlook kk ok ag z x k) g get m n=(match X get x,X get k with
  | .c (.map b),.c (.d d)=>match m b with
   |.map es=>match mfind kk d es 0 with
    |some (some (_,v))=>K (if ok then .tup [v,.c (.d (.bool true))]else v) [b] [] n
    |some none=>K (if ok then .tup [aval ag z,.c (.d (.bool false))]else aval ag z) [b] [] n
    |none=>False
   |_=>False
  |_,_=>False):=(Eq.refl _).trans rfl
@[simp] theorem zBO(kk:Nat)(x k v:MX){g}:eV P K (.mset kk x k v) g get m n=(match X get x,X get k with
  | .c (.map b),.c (.d d)=>match m b with
   |.map es=>match mfind kk d es 0 with
    |some (some (i,_))=>K (.c (.d .any)) [] [(b,.map (es.set i (d,X get v)))] n
    |some none=>K (.c (.d .any)) [] [(b,.map (es++[(d,X get v)]))] n
    |none=>False
   |_=>False
  |_,_=>False):=(Eq.refl _).trans rfl
@[simp] theorem zBk(z:List D)(bytes:Nat)(x y:MX){g}:eV P K (.mkslM z bytes x y) g get m n=(match X get x,X get y with
  |.c (.d (.int .i64 j)),.c (.d (.int .i64 l))=>0<=j/\j<=l/\l*bytes<=70368744177664/\m n=.non/\K (.c (.msl z.length n 0 j.toNat)) [] [(n,.arr z.length ((List.replicate j.toNat z).map (·.map .d)))] (n+1)
  |_,_=>False):=(Eq.refl _).trans rfl
@[simp] theorem zBP(ne:Bool)(ks:List Nat)(x y:MX){g}:eV P K (.eqAg ne ks x y) g get m n=(match X get x,X get y with
  | .ag cs,.ag cs'=>match allD cs,allD cs' with
   |some a,some b=>match eqL ks a b with
    |some t=>K (.c (.d (.bool (t^^ne)))) [] [] n
    |none=>False
   |_,_=>False
  |_,_=>False):=(Eq.refl _).trans rfl
end
attribute [simp] mfind kEq aval eqL
end Go.Abs
