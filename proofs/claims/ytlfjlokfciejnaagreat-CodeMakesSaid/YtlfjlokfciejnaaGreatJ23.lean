/- Of ours. -/
import Derived.Test.YtlfjlokfciejnaaGreatJ22
import Derived.Test.YtlfjlokfciejnaaGreatJ19
set_option maxRecDepth 20000
set_option maxHeartbeats 4000000
set_option linter.unusedVariables false
set_option linter.unusedSectionVars false
set_option linter.unusedSimpArgs false
set_option linter.defProp false
set_option linter.unnecessarySimpa false
open List renaming length->lN
open Bool renaming true->tT,false->oK
open Option renaming some->sS,none->nN
namespace Go.Gr
open Go.Abs Go.Proofs Go.RowKit Go.Maps Go.Sort Go.Shelf List
variable {h:PH}
def zrL:∀{ns:List fD} {vs:List Value},RepE h 1 (encS ns) vs->∀j (hj:j<lN ns),ns[j].size<=zaf/\vs[j]?=sS (encStr ns[j].data.toList)
|[],vs,r,j,hj=>by simp at hj
| s::ns,vs,r,j,hj=>by
 simp only[encS,map_cons,RepE]at r;let⟨_,r1,r2⟩:=r
 match vs,r1,r2 with
 | v::vs,r1,r2=>
  simp only[RepL,Abs.RepD]at r1;cases j with
  |zero=>
   simp only[getElem_cons_zero,getElem?_cons_zero];exact⟨r1.1.2.2,by rw[r1.1.2.1]⟩
  |succ j=>
   simp only[drop_succ_cons,fC]at r2;simpa using zrL (ns:=ns) r2 j (uM hj)
def VQ{w:World}(hp:∀B o,h B=sS o->w.heap[B]?=sS o){B o:Nat}{v:Value}(e:((hcells h B).drop o)[0]?=sS v):B<w.heap.size/\w.cell? ⟨B,o,nN⟩=sS v:=by
 unfold hcells at e;split at e
 next c t fr hb=>
  have hw:=hp _ _ hb;refine⟨(Array.getElem?_eq_some_iff.1 hw).1,?_⟩;rw[bE]at e;simp only[Nat.add_zero,Array.getElem?_toList]at e;simp[World.cell?,hw,e]
 .simp at e
def zpY:OA:=λns hl=>by
 refine⟨by decide+kernel,λh w _o hp _ _ r=>?_⟩
 match _o,r with
 | [v],r=>
  simp only[il,jJ,Abs.RepD,and_true]at r;obtain⟨vs,rfl,e2,e3⟩:=r
  match vs,e2,e3 with
  | [u],_,e3=>
   simp only[RepL,Abs.RepD,and_true]at e3;obtain⟨_,B,o,rfl,r1⟩:=e3;have key:∃sv,((hcells h B).drop o)[0]?=sS sv/\Go.Abs.RepD h (.sl oK 1 (encS ns)) sv:=by
    match _W:(hcells h B).drop o,r1 with
    |c::cs,r1=>
     simp only[RepL]at r1;exact⟨c,oC,r1.1.2⟩
   let⟨sv,k1,k2⟩:=key;let⟨b1,b2⟩:=VQ hp k1;simp only[Go.Abs.RepD]at k2;obtain⟨a,cap,rfl,c1,c2,c3,c4,c5,c6⟩:=k2;have e0:(encS ns).length=lN ns:=by simp[encS]
   have _W:=zrL c6;let⟨zs,hzs⟩:=oJ (ns.map (λs=>s.data.toList));have hzl:lN zs=lN ns:=by rw[<-hzs];simp
   have hI:FQ w.heap.size w (.slice a (encS ns).length cap) zs:=by
    rw[e0];by_cases q:ns=[]
    .subst q;exact .inl ⟨a,cap,oC,by rw[<-hzs];rfl⟩
    .have hn0:0<lN ns:=List.length_pos_iff.2 q
     match a,c4,c5,_W with
     |none,c4,_,_=>exact absurd (c4 rfl).1 (by intro e;rw[e]at e0;simp at e0;omega)
     | some p,_,c5,_W=>
      have hsp:=c5 p rfl oM;let⟨pb,po,ps⟩:=p;simp only at hsp;subst hsp;refine .inr ⟨pb,po,cap,by rw[hzl],?_,λj hj=>?_⟩
      .have:=(_W 0 hn0).2;refine(VQ (o:=po) hp (v:=encStr (ns[0]'hn0).data.toList) ?_).1;simpa[cellsAt]using this
      .have _q:j<lN ns:=oM;have:=(_W j _q).2;have e1:zs[j]?.getD []=ns[j].data.toList:=by rw[<-hzs];simp[_q]
       rw[e1];refine(VQ (o:=po+j) hp (v:=encStr ns[j].data.toList) ?_).2;rw[<-this];simp[cellsAt]
   have hm:(140737488351232:Nat)<=maxLen:=by decide
   have hsort:∀m,(∀(blk off cap:Nat) (ss:sD) (W:World),Holds encStr W blk off ss.toArray->blk<W.heap.size->lN ss<4611686018427387904->
     CallsIn Fence.wide m Tryz.prog 165 #[.slice (sS ⟨blk,off,nN⟩) (lN ss) cap] W λe w'=>e=.returned (.tuple #[])/\∃k os,w'=grow (putRow encStr (Sort.ahead W k) blk off (ss.mergeSort λx y=>decide (x<=y)).toArray) os)/\
     (∀(p:Option Addr) (cap:Nat) (W:World),CallsIn Fence.wide m Tryz.prog 165 #[.slice p 0 cap] W λe w'=>e=.returned (.tuple #[])/\w'=W):=λm=>
    ⟨λblk off cap ss W hH hblk hsz=>callsIn_wide.2 (AnyM.slices_Sort_string Tryz.sort165 blk off cap ss W hH hblk hsz),λp cap W=>callsIn_wide.2 (AnyM.slices_Sort_string_none Tryz.sort165 p cap W)⟩
   have hcall:=(callsIn_wide (n:=6)).1 (zBA Fence.wide 6 trivial trivial trivial trivial trivial rfl oM (hsort _) B o _ zs oM oM w b1 b2 hI);refine hcall.mono λe w' q=>?_;obtain⟨v,rfl,q3,q5⟩:=q;have hlen:(zaT ns).length=lN ns:=by simp[zaT]
   have hlm:lN ns<=zaf:=by unfold zaf;omega
   have es:zaT ns=(zs.mergeSort λx y=>decide (x<=y)).map λx=>⟨x.toArray⟩:=by rw[<-hzs];try rfl
   have e:encS (zaT ns)=((zaT ns).map D.str).map λd=>[d]:=by simp[encS]
   rw[e];let⟨h',z1,z2,z3,z4⟩:=zIn (ds:=(zaT ns).map D.str) q3 (by simp[hlen,hzl]) (by rw[hzl];exact hlm) (λh=>by
    rw[es];have:=zwh (h:=h) (l:=zs.mergeSort λx y=>decide (x<=y)) λx hx=>by
     have hx':=(mergeSort_perm _ _).mem_iff.1 hx;rw[<-hzs]at hx';obtain⟨s,hs,rfl⟩:=af.1 hx';obtain⟨j,hj,rfl⟩:=bg hs;rw[eY];exact(_W j hj).1
    exact this) (h:=h) λB o e=>by
     have:=hp B o e;have hB:B<w.heap.size:=(Array.getElem?_eq_some_iff.1 this).1;exact⟨hB,by rw[q5.block B hB];exact this⟩
   refine⟨v,h',rfl,z1,z2,z3,q5.size,λB hB=>q5.block B hB,⟨q5.os,q5.tape,q5.output⟩,?_⟩;simp only[jJ];exact z4
end Go.Gr
namespace Go.Gr
open Go.Abs Go.Proofs List
variable {l:List B?}
def kw(G:iT)(main:Int)(merge:Bool):iN × Int:=(⟨G.ints,G.L?,G.J_,G.cos,G.procs,main,merge⟩,0)
def ky(l:og):Nat:=(l.map λf=>wt f.body).sum
structure Gw (l:List B?):Prop where
 fns:∀f,f∈l->nX l True f/\f.k_+wt f.body<=900000000
 sum:ky l<=900000000
abbrev cBs(p q:Nat × Nat)(G:iT):oV:=[zC,zE,.G_ p 0,.G_ q 1,vI G 5 6 7 8 9 10 11 12 13,iA G,sA G,hA G,oA G,pA G,iM G,sM G,tB G 14 15,hM G,rA G,Cw G]
def zBz{all:og}{f:B?}{G R:iT}{b:Nat}(hF:nX all True f)(hc2:f.k_+wt f.body<=900000000)(hG:GG G b)(hI:GI G)(hb2:b+wt f.body<=1000000000)(hpr:lN G.procs<=100000)(e:uU (qx (Q_ f.body)) f G=sS R):GG R (b+wt f.body)/\GI R/\lN R.procs=lN G.procs+1:=by
 let⟨ho,w,hc⟩:=hF;have s:=zvu ho w hc hI e;let⟨pr,q1,q2⟩:=s.prc;have hv:=U4 zpY (Q_ f.body) f.body (aJ _);unfold uU at e;let⟨P1,e1,e⟩:=rR e;let⟨P2,e2,e⟩:=rR e;let⟨P3,e3,e⟩:=rR e;have g1:=(Ua e1).1;have c:=hv (wJ (f.k_.toNat+1) 0) (f.k_+1) (f.k_+2) P1 b (uM w) oM oM oM oM (by rw[g1];exact hG) hb2 oC (by simp;omega);have g2:=(c.2 _ e2).gg;have g3:=(nJ e3).1;have hl:lN R.procs=lN G.procs+1:=by rw[q1];simp
 cases e;refine⟨⟨?_,?_,?_,oM⟩,s.inv,hl⟩
 .simp only;rw[g3];exact g2.tree
 .simp only;rw[g3];exact g2.ks
 .simp only;rw[g3];exact g2.few
set_option maxHeartbeats 8000000 in
def zKV{l:og}(hl:lN l<=4096)(hH:Gw l)(main:Int)(merge:Bool)(c:Ctx)(p q:Nat × Nat)(S:St)(hk:KG l main merge p q S):AW Pg c LM (QC p q ((ll l G0).map λG=>kw G main merge)) S:=by
 let⟨Q,hQ⟩:=oJ (ll l G0);rw[hQ];have hp:c.pure:=trivial;let⟨T,m,n⟩:=S;let⟨k0,k1,k2,k6,k7,km,kn⟩:=hk;simp only at km kn;subst km kn;simp only at k0 k1 k2 k6 k7;have om:∀b,(AC.map b).one=tT:=λ_=>rfl;refine W.aw gm (F9 ?_);unfold LM Ih DK;simp[k0,k1,k2,k6,k7];apply gN [] zJR;simp[k0,k1,k2,k6,k7,om];apply fT [.c 10 0,.c 10 1,.c 10 2,.c 10 3,.c 10 4];simp[p9,k0,k1,k2,k6,k7,om];refine fM gm hp (λY:Nat × iT=>Y.1<=lN l/\(GG Y.2 (1+ky (l.take Y.1))/\GI Y.2)/\lN Y.2.procs=Y.1/\ll (l.drop Y.1) Y.2=Q) (λY=>[(24,.c (.d (.int .i64 Y.1))),(23,.c (.d (.int .i64 (lN l)))),(22,.c (.d (.sl oK 10 (l.map B?.enc)))),(8,.c (.ptr 4 0)),(1,.c (.d (.int .i64 main))),(2,.c (.d (.bool merge))),(6,.c (.ptr 0 0)),(7,.c (.ptr 1 0))]) (λY=>cBs p q Y.2) (λY=>lN l-Y.1) (0,G0) [0,1,2,3,10,11,12,13,14,15,4,5,8,9,6,7] ⟨oC,⟨⟨zIu,rfl,by simp[G0,T0],by simp[G0]⟩,zFh⟩,rfl,uM hQ⟩ (by simp[G0,T0,uQ,k0,k1,k2,k6,k7,encI,encS,nV,kM,lU]) λ⟨i,G⟩ ⟨i1,i2,i3,i4⟩=>?_;unfold zm5;simp only at i1 i2 i3 i4;simp;apply gM<;>intro g
 .have hi':i<lN l:=uM g;have hf:=hH.fns _ (aO hi');have hF:=hf.1;let⟨i2,iI⟩:=i2;have hsm:ky (l.take i)+wt l[i].body<=ky l/\ky (l.take (i+1))=ky (l.take i)+wt l[i].body:=by
   have e1:ky (l.take (i+1))=ky (l.take i)+wt l[i].body:=by
    unfold ky;rw[aN hi',dO,List.sum_append];simp
   refine⟨?_,e1⟩;rw[<-e1];unfold ky
   conv=>rhs;rw[<-dA (i+1) l,dO,List.sum_append]
   omega
  have hsum:=hH.sum;rw[aF hi',ll]at i4;have hv:=U4 zpY (Q_ l[i].body) l[i].body (aJ _);have hfo:=zzH (qx (Q_ l[i].body)) l[i] hv G (1+ky (l.take i)) hF.2.2 hf.2 hF.2.1 i2 oM oM;have hcut:Abs.cut l[i].enc 0 10=l[i].enc:=by simp[Abs.cut,aD]
  have hcutm:Abs.cut (List.map AC.d l[i].enc) 0 10=List.map AC.d l[i].enc:=by simp[Abs.cut,aD]
  simp[hi',hcut,hcutm];refine lg [4,5,6,7,8,9,10,11,12,13,14,15] hfo oC (λG1 h1=>⟨oC,?_⟩) (λh1=>⟨oC,?_⟩)
  .rw[h1]at i4;simp only[Option.bind_some]at i4;let⟨g1,gI,g2⟩:=zBz hF hf.2 i2 iI oM oM h1;simp;refine fE (i+1,G1) [0,1,2,3,4,17,18,19,20,21,10,11,12,13,22,15] ⟨Nat.succ_le_of_lt hi',⟨by simp only;rw[hsm.2,<-Nat.add_assoc];exact g1,gI⟩,qM,i4⟩ qM ?_;simp;exact wI
  .rw[h1]at i4;simp at i4;subst i4;simp[QC,Gd]
 .have hi':i=lN l:=oI g;subst hi';rw[aS]at i4;simp only[ll]at i4;subst i4;have c7:∀a b c d e f g h i j k:AC,Abs.cut [a,b,c,d,e,f,g,h,i,j,k] 0 7=[a,b,c,d,e,f,g]:=λ_ _ _ _ _ _ _ _ _ _ _=>rfl;simp[c7];refine⟨_,rfl,oC,oC,?_⟩;have t1:take (lN G.ints) (encI G.ints)=encI G.ints:=aD (by simp[encI]);have t2:take (lN G.L?) (encS G.L?)=encS G.L?:=aD (by simp[encS]);have t3:take (lN G.J_) (nV G.J_)=nV G.J_:=aD (by simp[nV]);have t4:take (lN G.cos) (List.map gT.enc G.cos)=List.map gT.enc G.cos:=aD oC;have t5:take (lN G.procs) (List.map jv.enc G.procs)=List.map jv.enc G.procs:=aD oC;have t6:(nV G.J_).length=lN G.J_:=by simp[nV]
  simp[kw,iN.enc,t1,t2,t3,t4,t5,t6];simp[nV]
def ji(l:og)(main:Int)(merge:Bool):iN × Int:=if 4096<lN l then(yC,19)else((ll l G0).map λG=>kw G main merge).getD (yC,19)
def VR{l:og}(hll:lN l<=zaf)(hH:lN l<=4096->Gw l)(main:Int)(merge:Bool):h_ Pg 11 [.one (.sl oK 10 (l.map B?.enc)),.one (.int .i64 main),.one (.bool merge)] (CL (ji l main merge)):=
 zKh hll main merge λh c p q S hk=>zKV h (hH h) main merge c p q S hk
variable {G:Nat}{b:Prop}{p:lC}
mutual
def zAl{G:Nat}{b:Prop}(t:D_):∀(c:n_) (m:Nat),jD m c->tH G c->ku b c->∀q,q∈jh t c m->tH G q.body/\ku b q.body
| .mk k n tx is ns ts cs ks,m,h,ho,hm,q,hq=>by
 rw[jD]at h;rw[tH]at ho;rw[ku]at hm;rw[jh]at hq;by_cases k4:k=4
 .simp only[aC k4]at hq;cases hq
 by_cases k5:k=5
 .simp only[aB k4,aC k5,aK]at hq;have e:=Gb (h.2.2.2.2.1 k5);have hx:ks.getD 0 noC∈ks:=by rw[e];simp
  subst hq;exact⟨LJ.1 ho.2 _ hx,Oe.1 hm.2 _ hx⟩
 .simp only[aB k4,aB k5]at hq;exact zw6 t k k5 ks m 0 h.2.2.2.2.2 ho.2 hm.2 q hq
def zw6{G:Nat}{b:Prop}(t:D_)(k:Int)(k5:k≠5):∀(c:List n_) (m i:Nat),h? m k c i->uY G c->Aa b c->∀q,q∈pF t k c i m->tH G q.body/\ku b q.body
|[],m,i,h,_,_,q,hq=>by rw[pF]at hq;cases hq
|c::r,m,i,h,ho,hm,q,hq=>by
 rw[h?,aB k5]at h;rw[uY]at ho;rw[Aa]at hm;rw[pF]at hq;simp only at hq;rw[Ey]at hq;rcases aL.1 hq with hq|hq
 .exact zAl t c _ h.1 ho.1 hm.1 q hq
 .exact zw6 t k k5 r m (i+1) h.2 ho.2 hm.2 q hq
end
def Run.okF{all:List B?}(hG:∀n:Int,0<=n->n<G->∃f,all[n.toNat]?=sS f/\f.k_=0):∀{i:Nat} {l lf:List D_} {fs:List B?},Run i l fs lf->uh l i->HF all lf->(∀t,t∈l->tH G t.body/\ku b t.body)->∀f,f∈fs->nX all b f
|_,_,_,_,.done l,_,_,_,f,hf=>by cases hf
| _,_,_,_,.step (i:=i) (l:=l) (t:=t) (fs:=fs) h r,hI,ha,hl,f,hf=>by
 have hs:=Run.sound (Run.step h r) hI ha f hf;let⟨hi,e⟩:=hI.at h;let⟨D,hD,hw,hb,_⟩:=(hI.2.1 _ (aO hi)).ex;rw[e]at hD hw;have e2:t.deep+1=((D+1:Nat):Int):=by rw[hD];omega
 have ht:=hl t (e▸aO hi);rcases aM.1 hf with e3|hf
 .let⟨n,h1,h2,h3,h4⟩:=hs;subst e3;simp only at h1 h3 h4;have ho:=zx4 hG t t.body _ l _ ht.1 ht.2 h4;refine⟨ho,?_,?_⟩
  .simp only;rw[h1,bC];exact Oh _ _ _ (aJ _) ho h4
  .simp only;omega
 .refine Run.okF hG r (hI.next h) ha (λq hq=>?_) f hf;rcases aL.1 hq with hq|hq
  .exact hl q hq
  .rw[e2]at hq;exact zAl t t.body (D+1) hw ht.1 ht.2 q hq
def zBE{M m b:Nat}{c:n_}(ho:V? M G c)(h:CW m b c)(trim:Bool):CW m b (wh trim c):=by
 have:=Og ho h.1 trim;exact⟨this.2.2.1,aX this.2.2.2 h.2⟩
def JC(h:xk p)(trim:Bool):wE (rC trim p):=by
 refine⟨λf hf=>?_,by simpa[rC]using h.good.2⟩;obtain⟨g,hg,rfl⟩:=af.1 hf;exact⟨zBE (h.ok g hg) (h.good.1 g hg).1 trim,(h.good.1 g hg).2⟩
def t?(trim:Bool)(p:lC):og:=Ct (rC trim p)
structure LQ (l:List B?) (G:Nat) (b:Prop):Prop where
 fns:∀f,f∈l->nX l b f
 own:∀n:Int,0<=n->n<G->∃f,l[n.toNat]?=sS f/\f.k_=0
 len:lN l<=500000000
 gen:lN l<=4096->ky l<=800000000/\∀f,f∈l->f.k_<=120005
theorem zrR(h:xk p)(trim:Bool)(hb:∀f,f∈p.v_->ku b (wh trim f.body)):LQ (t? trim p) (lN p.v_) b:=by
 have hg:=JC h trim;let⟨lf,r⟩:=zDl hg;have hI:=uh.start hg;have hHF:=r.hf;have hlen:((rC trim p).v_.map pg).length=lN p.v_:=by simp[rC]
 have _T:∀n:Int,0<=n->n<lN p.v_->∃f,(t? trim p)[n.toNat]?=sS f/\f.k_=0:=λn h0 h1=>by
  let⟨q,hq⟩:=r.pre;have hj:n.toNat<((rC trim p).v_.map pg).length:=by rw[hlen];omega
  have e:lf[n.toNat]?=sS (((rC trim p).v_.map pg)[n.toNat]):=by
   rw[<-hq,aj hj,aA hj]
  let⟨f,f1,f2⟩:=hHF _ _ e;refine⟨f,f1,?_⟩;rw[f2];simp[pg]
 have hl:∀t,t∈(rC trim p).v_.map pg->tH (lN p.v_) t.body/\ku b t.body:=λt ht=>by
  obtain⟨f,hf,rfl⟩:=af.1 ht;obtain⟨g,hg',rfl⟩:=af.1 hf;have:=Og (h.ok g hg') (h.good.1 g hg').1.1 trim;exact⟨this.1,hb g hg'⟩
 have hF:=Run.okF (all:=t? trim p) (b:=b) _T r hI hHF hl;have hlf:=r.len;have hgood:=r.good hI;have hsm:∀t,t∈(rC trim p).v_.map pg->Q_ t.body<=120005/\lN t.k_<=120005:=λt ht=>by
  obtain⟨f,hf,rfl⟩:=af.1 ht;exact⟨(hg.1 f hf).1.2,by simp[pg]⟩
 have _H:=Run.small r hI hsm;refine⟨hF,_T,?_,λh4=>⟨?_,λf hf=>?_⟩⟩
 .have:=hgood.2.2;show(t? trim p).length<=_;have e:(t? trim p).length+0=lN lf:=hlf;omega
 .have w1:=Run.wi r hI;have w2:=Run.Q_ r hI;have w3:=zAk (B:=120005) λt ht=>(_H t ht).2;have e:(t? trim p).length+0=lN lf:=hlf;have key:∀l:og,(∀f,f∈l->nX (t? trim p) b f)->ky l<=2*tJ Q_ l+tJ wi l:=λl=>by
   induction l with
   |nil=>intro _;simp[ky]
   |cons f l ih=>
    intro hl;have h1:=ih λx hx=>hl x (by simp[hx]);have h2:=zH1 f.body (hl f oC).1;simp only[ky,tJ,map_cons,List.sum_cons]at h1⊢;omega
  have w4:=key (t? trim p) hF;have w5:jH Q_ (((rC trim p).v_.map pg).drop 0)<=30841285:=by
   rw[fC];have key:∀l:List jN,(∀f,f∈l->wC f)->jH Q_ (l.map pg)<=lN l*120005:=λl=>by
    induction l with
    |nil=>intro _;simp
    |cons f l ih=>
     intro hl;have h1:=ih λx hx=>hl x (by simp[hx]);have h2:=(hl f oC).1.2;have h3:(pg f).body=f.body:=rfl;rw[map_cons,Tq,length_cons,h3];omega
   have k1:=key (rC trim p).v_ hg.1;have k2:=hg.2;omega
  have w6:lN lf<=4096:=oM;have w7:tJ wi (t? trim p)<=nZ lf:=by
   have:tJ wi (t? trim p)+nZ ((rC trim p).v_.map pg)=nZ lf:=w1;omega
  have w8:tJ Q_ (t? trim p)<=jH Q_ (((rC trim p).v_.map pg).drop 0):=w2;omega
 .obtain⟨j,hj,rfl⟩:=bg hf;have e:(t? trim p).length+0=lN lf:=hlf;have _x:j<lN lf:=oM;let⟨f,f1,f2⟩:=hHF j lf[j] (aA _x);have f1':(t? trim p)[j]?=sS f:=f1;rw[aA hj]at f1';cases f1';have:=(_H _ (aO _x)).2;omega
def LQ.gh{l:og}(h:LQ l G True)(hl:lN l<=4096):Gw l:=by
 have hg:=h.gen hl;refine⟨λf hf=>⟨h.fns f hf,?_⟩,oM⟩;have h1:=hg.2 f hf;have h2:∀l:og,f∈l->wt f.body<=ky l:=λl=>by
  induction l with
  |nil=>intro h;cases h
  | cons x l ih=>
   intro h;simp only[ky,map_cons,List.sum_cons]at ih⊢;rcases aM.1 h with rfl|h
   .omega
   .have:=ih h;omega
 have:=h2 l hf;omega
def Gx(x:List UInt8):List (List UInt8)->List (List UInt8)
|[]=>[x]
|y::l=>if x<=y then x::y::l else y::Gx x l
def LU:List (List UInt8)->List (List UInt8)
|[]=>[]
|x::l=>Gx x (LU l)
def VS(x:List UInt8):∀l,(Gx x l).Perm (x::l)
|[]=>.refl _
|y::l=>by
 rw[Gx];split
 .exact .refl _
 .exact((VS x l).cons y).trans (.swap x y l)
def zsK:∀l,(LU l).Perm l
|[]=>.refl _
|x::l=>(VS x _).trans ((zsK l).cons x)
def zx1(x:List UInt8):∀l:List (List UInt8),l.Pairwise (· <= ·)->(Gx x l).Pairwise (· <= ·)
|[],_=>by simp[Gx]
| y::l,h=>by
 rw[ak]at h;rw[Gx];split
 next q=>
  refine ak.2 ⟨λz hz=>?_,ak.2 h⟩;rcases aM.1 hz with e|e
  .subst e;exact q
  .exact List.le_trans q (h.1 z e)
 next q=>
  have q':y<=x:=(List.le_total x y).resolve_left q;refine ak.2 ⟨λz hz=>?_,zx1 x l h.2⟩;rcases aM.1 ((VS x l).mem_iff.1 hz)with e|e
  .subst e;exact q'
  .exact h.1 z e
def zx2:∀l:List (List UInt8),(LU l).Pairwise (· <= ·)
|[]=>by simp[LU]
|x::l=>zx1 x _ (zx2 l)
def LV(l:oN):oN:=(LU (l.map λs=>s.data.toList)).map λx=>⟨x.toArray⟩
def zKn(l:oN):zaT l=LV l:=by
 unfold zaT LV;congr 1;have tr:∀a b c:o9,decide (a<=b)=tT->decide (b<=c)=tT->decide (a<=c)=tT:=λa b c h1 h2=>by simp only[aI]at*;exact List.le_trans h1 h2
 have to:∀a b:o9,(decide (a<=b)||decide (b<=a))=tT:=λa b=>by simp only[cz,aI];exact List.le_total a b
 have h1:=pairwise_mergeSort tr to (l.map λs=>s.data.toList);refine List.Perm.eq_of_pairwise (le:=(· <= ·)) (λa b _ _ p q=>List.le_antisymm p q) ?_ (zx2 _) ((mergeSort_perm _ _).trans (zsK _).symm);exact h1.imp λh=>uM h
def VT(V:VF)(x:n_)(vs:oW)(to free:Int)(P:o?):Option o?:=(AR V vs free (LV x.a_) x.b_ x.a_ P).bind λP1=>iY {P1 with G:=(xY P1.G (LV x.a_)).1} ⟨18,to,(xY P1.G (LV x.a_)).2,free⟩
def zH9(V:VF)(x:n_)(vs:oW)(to free:Int)(P:o?):Option o?:=(mZ P to).bind λP0=>
 if x.d_=18 then x8 V x vs to free P0
 else if x.d_=11 then Cx V x vs to free P0
 else if x.d_=8 then VT V x vs to free P0
 else if x.d_=23 then Bw x vs to free P0
 else if x.d_=10 then x9 V x vs to free P0
 else(lh V vs to free x.b_ 0 P0).bind λP1=>jA x vs to free P1
def Ab:Nat->VF
|0=>λ_ _ _ _ _=>nN
|n+1=>zH9 (Ab n)
def zIa:∀n,qx n=Ab n
|0=>rfl
| n+1=>by
 rw[qx,Ab,zIa n];funext x vs to free P;unfold wG zH9;have:BD (Ab n) x vs to free=VT (Ab n) x vs to free:=by
  funext P;unfold BD VT Gp;rw[zKn]
 rw[this]
def ET:List B?->iT->Option iT
|[],G=>sS G
|f::l,G=>(uU (Ab (Q_ f.body)) f G).bind (ET l)
def zIb:∀(l:List B?) (G:iT),ll l G=ET l G
|[],G=>rfl
|f::l,G=>by
 rw[ll,ET,zIa];congr 1;funext G;exact zIb l G
def VU(l:og)(main:Int)(merge:Bool):iN × Int:=if 4096<lN l then(yC,19)else((ET l G0).map λG=>kw G main merge).getD (yC,19)
def zKo(l:og)(main:Int)(merge:Bool):ji l main merge=VU l main merge:=by
 unfold ji VU;rw[zIb]
def tx1:ow:=[(bs [109,97,105,110],bs [102,110,32,109,97,105,110,40,120,41,32,61,32,49,32,43,32,50,59])]
def tx2:ow:=[(bs [109,97,105,110],bs [102,110,32,102,40,120,58,32,105,110,116,41,32,61,32,102,110,32,40,121,58,32,105,110,116,41,32,61,62,32,120,32,43,32,121,59,32,102,110,32,109,97,105,110,40,120,41,32,61,32,108,101,116,32,97,32,61,32,112,114,105,110,116,40,123,98,58,32,49,44,32,97,58,32,34,34,125,41,59,32,102,40,49,41,40,50,41,32,47,32,48,59])]
def VV:iN:=⟨[1,2],[],[],[],[⟨0,3,[⟨11,1,0,0⟩,⟨11,2,1,0⟩,⟨0,1,1,2⟩,⟨23,1,0,0⟩]⟩],0,tT⟩
def Om(l:ow):Bool × iN × Int:=((uH l).2,VU (t? tT (uH l).1) (uH l).1.main tT)
def VW:iN:=⟨[1,2,0],[bs []],[[bs [97],bs [98]]],[.mk [0,0,0,0,0,0] [] [] [] [.mk [3,3,0,3,3,3] [] [] [] [],.mk [0,0,0,0,0,0] [] [] [] []],.mk [4,4,4,4,4,0] [] [] [] [],.mk [8,8,0,8,8,8] [] [] [] []],
[⟨0,3,[⟨15,2,0,0⟩,⟨17,1,2,2⟩,⟨21,1,1,0⟩,⟨23,1,0,0⟩]⟩,⟨0,5,[⟨11,4,0,0⟩,⟨12,3,0,0⟩,⟨18,2,0,3⟩,⟨31,2,2,0⟩,⟨16,1,0,0⟩,⟨11,3,0,0⟩,⟨22,1,1,3⟩,⟨21,1,1,1⟩,⟨11,3,1,0⟩,⟨22,1,1,3⟩,⟨21,1,1,2⟩,⟨11,3,2,0⟩,⟨3,1,1,3⟩,⟨23,1,0,0⟩]⟩,⟨1,4,[⟨15,2,0,0⟩,⟨15,3,1,0⟩,⟨0,2,2,3⟩,⟨23,2,0,0⟩]⟩],1,tT⟩
set_option maxRecDepth 100000 in
theorem mk1:Om tx1=(tT,VV,0):=kR
set_option maxRecDepth 100000 in
theorem mk2:Om tx2=(tT,VW,0):=kR
end Go.Gr
namespace Go.Abs
variable {m:Hp}{x:AV}{d:DV}
variable [jE]
def uZ{α β:Type _}(g:α->Option β):List α->Option (List β)
|[]=>sS []
|x::xs=>match g x,uZ g xs with
 |some y,sS ys=>sS (y::ys)
 |_,_=>nN
def FR(m:Hp):Nat->AC->Option D
| 0,x=>(match x with
 |.d x=>sS x
 |.x_ s b off len=>(match m b with
  |.arr s' es=>if s=s'/\off+len<=lN es then(nA es).map λds=>.sl oK s ((ds.drop off).take len)else nN
  |_=>nN)
 |_=>nN)
| f+1,x=>(match x with
 |.d x=>sS x
 |.x_ s b off len=>(match m b with
  |.arr s' es=>if s=s'/\off+len<=lN es then(nA es).map λds=>.sl oK s ((ds.drop off).take len)else nN
  |_=>nN)
 |.ptr b off=>(match m b with
  |.box cs=>(uZ (FR m f) cs).map λds=>.rp ds off
  |_=>nN)
 |_=>nN)
def VX{f:Nat}{g:AC->Option D}(hg:∀x d,g x=sS d->S? m f x=sS d):∀{cs:List AC} {ds:List D},uZ g cs=sS ds->uk m f cs=sS ds
|[],ds,e=>by unfold uZ at e;unfold uk;exact e
| c::cs,ds,e=>by
 unfold uZ at e;split at e
 next y ys h1 h2=>
  unfold uk;rw[hg _ _ h1,VX hg h2];exact e
 .cases e
def VY:∀{f:Nat} {x:AC} {d:D},FR m f x=sS d->S? m f x=sS d
|0,x,d,e=>by
 cases x<;>simp only[FR]at e<;>unfold S?<;>first|exact e|cases e
| f+1,x,d,e=>by
 cases x<;>simp only[FR]at e<;>unfold S?<;>first|exact e|(cases e;done)|skip
 rename_i b off;split at e
 next cs hb=>
  simp only[hb];simp only[aP]at e⊢;let⟨ds,e1,e2⟩:=e;exact⟨ds,VX (λx d h=>VY h) e1,e2⟩
 .cases e
def CO(m:Hp):AV->Option DV
|.c x=>(FR m 4 x).map .one
|.ag cs=>(uZ (FR m 4) cs).map .agg
|.a? vs=>nN
def VZ(m:Hp):AV->Option DV
|.c x=>(FR m 4 x).map .one
|.ag cs=>(uZ (FR m 4) cs).map .agg
|.a? vs=>(uZ (CO m) vs).map .a?
def V3(e:CO m x=sS d):frzV m x=sS d:=by
 cases x with
 |c x=>
  simp only[CO,aP]at e;let⟨y,e1,e2⟩:=e;simp only[frzV,VY e1,Option.map_some,e2]
 |ag cs=>
  simp only[CO,aP]at e;let⟨y,e1,e2⟩:=e;simp only[frzV,VX (λx d h=>VY h) e1,Option.map_some,e2]
 |a? vs=>cases e
def zsw:∀{vs:List AV} {ds:List DV},uZ (CO m) vs=sS ds->wQ m vs=sS ds
|[],ds,e=>by unfold uZ at e;simpa[wQ]using e
| v::vs,ds,e=>by
 unfold uZ at e;split at e
 next y ys h1 h2=>
  simp only[wQ,V3 h1,zsw h2];exact e
 .cases e
def zKd(e:VZ m x=sS d):frzV m x=sS d:=by
 cases x with
 |c x=>exact V3 (x:=.c x) e
 |ag cs=>exact V3 (x:=.ag cs) e
 |a? vs=>
  simp only[VZ,aP]at e;let⟨y,e1,e2⟩:=e;simp only[frzV,zsw e1,Option.map_some,e2]
def V4(T:TE) (X:CE) (fuel d:Nat) (f:FuncId) (args:sQ):Option DV:=match T f with
|none=>nN
| some (N,mc,rs)=>if lN args<=N then(match tL (J9 T X fuel d) 0 fuel mc ⟨qd 0 args,[]⟩with
  |some (.ret,S)=>(match uB S rs with
   |some vs=>VZ (r_ S.l) (one? vs)
   |none=>nN)
  |_=>nN)else nN
def zAA{T:TE}{X:CE}{fuel d:Nat}{f:FuncId}{args:sQ}{v:DV}(h:V4 T X fuel d f args=sS v):MZ T X fuel d f args=sS v.er:=by
 unfold V4 at h;unfold MZ;split at h
 .cases h
 next N mc rs hTf=>
  simp only[hTf];split at h
  next hal=>
   simp only[hal,if_true];split at h
   next S hex=>
    simp only[hex];split at h
    next vs h1=>
     simp only[h1,zKd h,Option.map_some]
    .cases h
   .cases h
  .cases h
end Go.Abs
namespace Go.Gr
open Go.Abs Go.Proofs
def zym{n:Int}{b:UInt8}(h:∀w:World,Calls Tryz.prog 173 #[.int .i64 n] w λe w'=>e=.returned (.string ⟨#[b]⟩)/\Go.RowKit.Below w.heap.size w w'):h_ Pg 173 [.one (.int .i64 n)] (.one (.str ⟨#[b]⟩)):=by
 refine⟨by decide+kernel,λph w _o hp _ _ r=>?_⟩
 match _o,r with
 | [v],r=>
  simp only[il,jJ,Abs.RepD,and_true]at r;obtain⟨rfl,_⟩:=r;refine(h w).mono λe w' ⟨he,hb⟩=>?_;refine⟨_,ph,he,fU ph,λ_ _=>rfl,λB o e=>?_,hb.size,λB hB=>hb.block B hB,⟨hb.os,hb.tape,hb.output⟩,?_⟩
  .have:=hp B o e;have hB:B<w.heap.size:=(Array.getElem?_eq_some_iff.1 this).1;rw[hb.block B hB];exact this
  .simp[jJ,Go.Abs.RepD,zaf,ByteArray.size]
def zHp:h_ Pg 173 [.one (.int .i64 3)] (.one (.str ⟨#[51]⟩)):=zym λw=>(callsIn_wide (n:=5)).1 (zLs Fence.wide 5 trivial rfl w)
def zHq:h_ Pg 173 [.one (.int .i64 1)] (.one (.str ⟨#[49]⟩)):=zym λw=>(callsIn_wide (n:=5)).1 (zLt Fence.wide 5 trivial rfl w)
def V5:CE:=λf az bb=>if f=173 then(match az,bb with
 |[.c (.d (.int .i64 n))],[]=>if n=3 then sS (.c (.d (.str ⟨#[51]⟩)),[])else if n=1 then sS (.c (.d (.str ⟨#[49]⟩)),[])else nN
 |_,_=>nN)else nN
def zEZ:∀f az bb v bb',V5 f az bb=sS (v,bb')->q_ Pg f az bb v bb':=λf az bb v bb' h=>by
 unfold V5 at h;split at h
 next hf=>
  subst hf;split at h
  next n=>
   split at h
   next hn=>
    subst hn;cases h;exact q_.frz (ds:=[.one (.int .i64 3)]) zHp (λ_ _ _ r=>by simpa[Go.Abs.RepD]using r) (by simp[wQ,frzV,S?]) (λi hi=>by simp at hi) (by rfl)
   .split at h
    next hn=>
     subst hn;cases h;exact q_.frz (ds:=[.one (.int .i64 1)]) zHq (λ_ _ _ r=>by simpa[Go.Abs.RepD]using r) (by simp[wQ,frzV,S?]) (λi hi=>by simp at hi) (by rfl)
    .cases h
  .cases h
 .cases h
noncomputable def EU (c:iN) (cells fuel:Int) (k d:Nat):Option DV:=V4 T9 V5 k d 33 [.agg c.enc,.one (.sl tT 1 []),.one (.int .i64 cells),.one (.int .i64 fuel)]
def Oo:fD:=bs [112,114,105,110,116,32,123,97,58,32,34,34,44,32,98,58,32,49,125]
set_option maxRecDepth 100000 in
theorem rn1:(EU VV 2400 40 2000 30).map DV.er=sS (.a? [.agg [.sl oK 1 [],.int .i64 0,.int .i64 0,.str (bs [51])],.agg [.int .i64 4,.int .i64 0,.int .i64 0,.int .i64 0],.one (.int .i64 0)]):=kR
set_option maxRecDepth 100000 in
theorem rn2:(EU VW 13200 220 2000 30).map DV.er=sS (.a? [.agg [.sl oK 1 [[.str Oo]],.int .i64 2,.int .i64 1,.str ⟨#[]⟩],.agg [.int .i64 21,.int .i64 5,.int .i64 1,.int .i64 5],.one (.int .i64 0)]):=kR
def zAB(l:oN):h_ Pg 30 [.one (.sl oK 1 (encS l)),.one (.sl oK 1 (encS l))] (.one (.bool tT)):=by
 refine zzN oC λo cx hN hp=>?_;have _V:=o.1;simp only[DV.ok,D.ok]at _V;unfold zaf at _V;have l1:lN l<=4611686018427387904:=by have:=_V.1;simpa[encS]using this
 clear _V;unfold zoA;simp;refine fM gm hp (λj:Nat=>j<=lN l) (λj=>[(5,.c (.d (.int .i64 j))),(1,.c (.d (.sl oK 1 (encS l)))),(0,.c (.d (.sl oK 1 (encS l))))]) (λ_=>[]) (λj=>lN l-j) 0 [] oC oC λj i1=>?_;unfold zlo;simp;apply gM<;>intro h
 .have hj:j<lN l:=by simpa[encS]using h
  have hw:=wI (n:=(j:Int)+1);simp[hj,encS];refine oG ?_;refine fE (j+1) [] oM oM ?_;simp[hw,encS]
 try simp
def zIZ(p:jv):h_ Pg 32 [.agg p.enc,.agg p.enc] (.one (.bool tT)):=by
 refine zzO oC λo cx hN hp=>?_;have _V:=o.1;simp only[DV.ok,jv.enc,D.okL,D.ok,aa]at _V;unfold zaf at _V;have l1:lN p.code<=4611686018427387904:=by have:=_V.2.2.1.1;simpa using this
 clear _V;unfold zoB;simp;refine fM gm hp (λj:Nat=>j<=lN p.code) (λj=>[(5,.c (.d (.int .i64 j))),(3,.c (.d (.rp p.enc 0))),(2,.c (.d (.rp p.enc 0)))]) (λ_=>[]) (λj=>lN p.code-j) 0 [] oC oC λj i1=>?_;unfold zlp;simp;apply gM<;>intro h
 .have hj:j<lN p.code:=uM h;have hw:=wI (n:=(j:Int)+1);simp[hj,Ins.enc];refine oG ?_;refine fE (j+1) [] oM oM ?_;simp[hw]
 try simp
def zI0(c:gT):h_ Pg 31 [.agg c.enc,.agg c.enc] (.one (.bool tT)):=by
 have:=UN c c;rwa[(Iu c c).2 rfl]at this
def zI1(c:iN):h_ Pg 15 [.agg c.enc,.agg c.enc] (.one (.bool tT)):=by
 refine zzP oC λo cx hN hp=>?_;have _V:=o.1;simp only[DV.ok,iN.enc,D.okL,D.ok,aa]at _V;unfold zaf at _V;have l1:lN c.ints<=4611686018427387904:=by have:=_V.1.1;simpa[encI]using this
 have l2:lN c.J_<=4611686018427387904:=by have:=_V.2.2.1.1;simpa using this
 have l3:lN c.cos<=4611686018427387904:=by have:=_V.2.2.2.1.1;simpa using this
 have l4:lN c.procs<=4611686018427387904:=by have:=_V.2.2.2.2.1.1;simpa using this
 clear _V;unfold zoC;simp;refine gQ (zAB c.L?) ?_;simp;refine fM gm hp (λj:Nat=>j<=lN c.ints) (λj=>[(6,.c (.d (.int .i64 j))),(3,.c (.d (.rp c.enc 0))),(2,.c (.d (.rp c.enc 0)))]) (λ_=>[]) (λj=>lN c.ints-j) 0 [] oC (by simp[encI]) λj i1=>?_;unfold zlq;simp;apply gM<;>intro h
 .have hj:j<lN c.ints:=by simpa[encI]using h
  have hw:=wI (n:=(j:Int)+1);simp[hj,encI];refine oG ?_;refine fE (j+1) [] oM oM ?_;simp[hw]
 try simp
 refine fM gm hp (λj:Nat=>j<=lN c.J_) (λj=>[(7,.c (.d (.int .i64 j))),(3,.c (.d (.rp c.enc 0))),(2,.c (.d (.rp c.enc 0)))]) (λ_=>[]) (λj=>lN c.J_-j) 0 [] oC (by simp[encI]) λj i1=>?_;unfold zlr;simp;apply gM<;>intro h
 .have hj:j<lN c.J_:=by simpa[encI]using h
  have hw:=wI (n:=(j:Int)+1);simp[hj,encI];refine gQ (zAB c.J_[j]) ?_;simp;refine oG ?_;refine fE (j+1) [] oM oM ?_;simp[hw]
 try simp
 refine fM gm hp (λj:Nat=>j<=lN c.cos) (λj=>[(9,.c (.d (.int .i64 j))),(3,.c (.d (.rp c.enc 0))),(2,.c (.d (.rp c.enc 0)))]) (λ_=>[]) (λj=>lN c.cos-j) 0 [] oC (by simp[encI]) λj i1=>?_;unfold zls;simp;apply gM<;>intro h
 .have hj:j<lN c.cos:=by simpa[encI]using h
  have hw:=wI (n:=(j:Int)+1);simp[hj,encI];refine gQ (zI0 c.cos[j]) ?_;simp;refine oG ?_;refine fE (j+1) [] oM oM ?_;simp[hw]
 try simp
 refine fM gm hp (λj:Nat=>j<=lN c.procs) (λj=>[(11,.c (.d (.int .i64 j))),(3,.c (.d (.rp c.enc 0))),(2,.c (.d (.rp c.enc 0)))]) (λ_=>[]) (λj=>lN c.procs-j) 0 [] oC (by simp[encI]) λj i1=>?_;unfold zlt;simp;apply gM<;>intro h
 .have hj:j<lN c.procs:=by simpa[encI]using h
  have hw:=wI (n:=(j:Int)+1);simp[hj,encI];refine gQ (zIZ c.procs[j]) ?_;simp;refine oG ?_;refine fE (j+1) [] oM oM ?_;simp[hw]
 try simp
end Go.Gr
namespace Go.Gr
open Go.Abs Go.Proofs List
variable {l:List n_}{j:Nat}
mutual
def wm:n_->Nat
|.mk _ _ _ _ _ _ cs ks=>lN cs+rE ks
def rE:List n_->Nat
|[]=>0
|k::ks=>wm k+rE ks
end
def zKk(c:n_):wm c=lN c.cos+rE c.b_:=by cases c;rw[wm];try rfl
def zI9{l:o8}(h:j<lN l):B_ (l.drop j)=Q_ l[j]+B_ (l.drop (j+1)):=by
 rw[aF h,B_]
def zJa{l:o8}(h:j<lN l):rE (l.drop j)=wm l[j]+rE (l.drop (j+1)):=by
 rw[aF h,rE]
def zAR:∀(n:Nat) (c:n_),Q_ c<=n->n<=1000000000000->h_ Pg 12 [.agg c.enc] (.one (.int .i64 (Q_ c)))
|0,c,h,hn=>by rw[lc]at h;omega
| n+1,c,h,hn=>by
 have hc:=lc c;have hl:=Cv c.b_;rw[lc]at h;refine zB0 oC λo ctx hN hp=>?_;simp[zqc];refine fM gm hp (λY:Nat × Nat=>Y.1<=lN c.b_/\Y.2+B_ (c.b_.drop Y.1)=Q_ c) (λY=>[(4,.c (.d (.int .i64 Y.1))),(3,.c (.d (.int .i64 Y.2))),(1,.c (.d (.rp c.enc 0)))]) (λ_=>[]) (λY=>lN c.b_-Y.1) (0,1) [] ⟨oC,by rw[lc];simp⟩ oC λ⟨i,s⟩ ⟨i1,i2⟩=>?_;unfold zmW;simp only at i1 i2;rw[lc]at i2;simp;apply gM<;>intro q
 .have hi':i<lN c.b_:=uM q;rw[zI9 hi']at i2;have hk:=Br (aO hi');simp[hi'];apply gQ (zAR n _ oM oM);simp;apply fE (i+1,s+Q_ c.b_[i]) [] ⟨Nat.succ_le_of_lt hi',qM⟩ qM;simp;exact⟨wI,by rw[wI]⟩
 .have hi':i=lN c.b_:=oI q;subst hi';rw[aS]at i2;simp only[B_,Nat.add_zero]at i2;simp[lc c,<-i2]
def zxW:∀(n:Nat) (c:n_),Q_ c<=n->n<=1000000000000->wm c<=1000000000000->h_ Pg 16 [.agg c.enc] (.one (.int .i64 (wm c)))
|0,c,h,hn,h2=>by rw[lc]at h;omega
| n+1,c,h,hn,h2=>by
 have hc:=zKk c;have hl:=Cv c.b_;rw[lc]at h;refine zzs oC λo ctx hN hp=>?_;simp[zn7];refine fM gm hp (λY:Nat × Nat=>Y.1<=lN c.b_/\Y.2+rE (c.b_.drop Y.1)=wm c) (λY=>[(4,.c (.d (.int .i64 Y.1))),(3,.c (.d (.int .i64 Y.2))),(1,.c (.d (.rp c.enc 0)))]) (λ_=>[]) (λY=>lN c.b_-Y.1) (0,lN c.cos) [] ⟨oC,by simp[hc]⟩ oC λ⟨i,s⟩ ⟨i1,i2⟩=>?_;unfold zkU;simp only at i1 i2;simp;apply gM<;>intro q
 .have hi':i<lN c.b_:=uM q;rw[zJa hi']at i2;have hk:=Br (aO hi');simp[hi'];apply gQ (zxW n _ oM oM oM);simp;apply fE (i+1,s+wm c.b_[i]) [] ⟨Nat.succ_le_of_lt hi',qM⟩ qM;simp;exact⟨wI,by rw[wI]⟩
 .have hi':i=lN c.b_:=oI q;subst hi';rw[aS]at i2;simp only[rE,Nat.add_zero]at i2;simp[<-i2]
variable {l:List B?}{b:Prop}{p:lC}
def V6{l:og}(H:∀f,f∈l->nX l b f)(main:Int)(merge:Bool):ji l main merge=(yC,19)\/∃R,lN l<=4096/\GI R/\ll l G0=sS R/\ji l main merge=kw R main merge/\lN R.procs=lN l/\∀(j:Nat) (f:B?) (p:jv),l[j]?=sS f->R.procs[j]?=sS p->rz l b R f p:=by
 unfold ji;split
 .exact .inl rfl
 next hl=>
  cases e:ll l G0 with
  |none=>exact .inl rfl
  |some R=>
   let⟨h1,h2,ps,h3,h4,h5⟩:=zvv H zFh e;have hp:R.procs=ps:=by rw[h3];try rfl
   exact .inr ⟨R,oM,h2,rfl,rfl,by rw[hp,h4],λj f p hf hq=>h5 j f p hf (by rwa[hp]at hq)⟩
def mr:List jv->Nat
|[]=>0
|p::ps=>lN p.code+mr ps
def zJI{l:List jv}{j:Nat}(h:j<lN l):mr (l.drop j)=l[j].code.length+mr (l.drop (j+1)):=by
 rw[aF h,mr]
def zBb:∀{l:List jv},(∀p,p∈l->lN p.code<=65536)->mr l<=65536*lN l
|[],_=>by simp[mr]
|p::l,h=>by
 have:=zBb (l:=l) λq hq=>h q (by simp[hq]);have:=h p oC;simp only[mr,length_cons];omega
def zHW{l:og}(H:∀f,f∈l->nX l b f)(main:Int)(merge:Bool):mr (ji l main merge).1.procs<=300000000/\(ji l main merge).1.procs.length<=4096:=by
 rcases V6 H main merge with e|⟨R,h1,h2,h3,e,h4,h5⟩
 .rw[e];simp[yC,mr]
 .rw[e];simp only[kw];have:=zBb (l:=R.procs) λp hp=>by
   obtain⟨j,hj,rfl⟩:=List.mem_iff_getElem.1 hp;exact(h5 j l[j] _ (aA (h4▸hj)) (aA hj)).few
  omega
def LW(h:xk p)(trim:Bool):LQ (t? trim p) (lN p.v_) True:=zrR h trim λf hf=>(Og (h.ok f hf) (h.good.1 f hf).1.1 trim).2.1
@[simp] theorem iN.get4(c:iN)(h:4<lN c.enc):c.enc[4]=.sl oK 3 (c.procs.map jv.enc):=rfl
theorem V7(h:xk p)(trim:Bool):h_ Pg 14 [.agg p.enc,.one (.bool trim)] (.a? [.agg (ji (t? trim p) p.main trim).1.enc,.one (.int .i64 (mr (ji (t? trim p) p.main trim).1.procs)),.one (.bool (decide ((ji (t? trim p) p.main trim).2=0)))]):=by
 refine zBZ oC λo cx hN hp=>?_;have F:=LW h trim;have hl:(t? trim p).length<=zaf:=by have:=F.len;unfold zaf;omega
 have hg:=VR hl (λh=>F.gh h) p.main trim;have hn:=Oi p h trim;have hc:=UC _ (JC h trim);let⟨k1,k2⟩:=zHW F.fns p.main trim;have hm:(rC trim p).main=p.main:=rfl;have pe0:(rC trim p).enc[1]?=sS (.int .i64 p.main):=rfl;unfold t? at*
 generalize ji (Ct (rC trim p)) p.main trim=r at*
 let⟨c,e⟩:=r;simp only at k1 k2;simp[zqb];apply gQ hn;simp;apply gQ hc;simp;apply gQ hg;simp;refine⟨rfl,?_⟩;refine fM gm hp (λY:Nat × Nat=>Y.1<=lN c.procs/\Y.2+mr (c.procs.drop Y.1)=mr c.procs) (λY=>[(11,.c (.d (.int .i64 Y.1))),(10,.c (.d (.int .i64 Y.2))),(9,.c (.d (.int .i64 e))),(8,.c (.ptr 1 0)),(4,.c (.ptr 0 0))]) (λ_=>[zC,.box (c.enc.map .d)]) (λY=>lN c.procs-Y.1) (0,0) [0,2] ⟨oC,oC⟩ oC λ⟨i,s⟩ ⟨i1,i2⟩=>?_;unfold zmV;simp only at i1 i2;simp;apply gM<;>intro h
 .have hj:i<lN c.procs:=uM h;rw[zJI hj]at i2;simp[hj];apply fE (i+1,s+c.procs[i].code.length) [0,1] ⟨Nat.succ_le_of_lt hj,qM⟩ qM;simp;exact⟨wI,by rw[wI]⟩
 .have hj:i=lN c.procs:=oI h;subst hj;rw[aS]at i2;simp only[mr,Nat.add_zero]at i2;simp[<-i2];rfl
end Go.Gr
namespace Go.Gr
open Go.Abs Go.Proofs
set_option maxRecDepth 100000 in
def zJh:h_ Pg 33 [.agg VV.enc,.one (.sl tT 1 []),.one (.int .i64 2400),.one (.int .i64 40)] (.a? [.agg [.sl oK 1 [],.int .i64 0,.int .i64 0,.str (bs [51])],.agg [.int .i64 4,.int .i64 0,.int .i64 0,.int .i64 0],.one (.int .i64 0)]):=by
 have h:=rn1;unfold EU at h;simp only[aP]at h;let⟨v,e1,e2⟩:=h;have:=X9 gm zDt zEZ (zAA e1);rwa[e2]at this
set_option maxRecDepth 100000 in
def zJi:h_ Pg 33 [.agg VW.enc,.one (.sl tT 1 []),.one (.int .i64 13200),.one (.int .i64 220)] (.a? [.agg [.sl oK 1 [[.str Oo]],.int .i64 2,.int .i64 1,.str ⟨#[]⟩],.agg [.int .i64 21,.int .i64 5,.int .i64 1,.int .i64 5],.one (.int .i64 0)]):=by
 have h:=rn2;unfold EU at h;simp only[aP]at h;let⟨v,e1,e2⟩:=h;have:=X9 gm zDt zEZ (zAA e1);rwa[e2]at this
def zya{t:fD}{c:iN}{ls:o5}{en n:Int}{s:fD}{x1 x2 x3 x4:Int}(hm:Om [(bs [109,97,105,110],t)]=(tT,c,0))(hs:mr c.procs<=100)
  (hr:h_ Pg 33 [.agg c.enc,.one (.sl tT 1 []),.one (.int .i64 (600*(mr c.procs))),.one (.int .i64 (10*mr c.procs))] (.a? [.agg [.sl oK 1 ls,.int .i64 en,.int .i64 n,.str s],.agg [.int .i64 x1,.int .i64 x2,.int .i64 x3,.int .i64 x4],.one (.int .i64 0)])):h_ Pg 17 [.one (.str t)] (.agg [.sl oK 1 ls,.int .i64 en,.int .i64 n,.str s]):=by
 refine zEf oC λo cx hN hp=>?_;unfold Om at hm;simp only[au]at hm;let⟨h1,h2⟩:=hm;have h2':ji (t? tT (uH [(bs [109,97,105,110],t)]).1) (uH [(bs [109,97,105,110],t)]).1.main tT=(c,0):=by
  rw[zKo];exact h2
 have mp:=h_.K_ (args:=[.one (.sl tT 2 [[.str (bs [109,97,105,110]),.str t]])]) (Kc [(bs [109,97,105,110],t)]) (by simp[DV.R_,DV.K_,D.K_,D.O_,D.W_,jg]);have hd:=V7 (LK h1) tT;rw[h2']at hd;generalize uH [(bs [109,97,105,110],t)]=r at*
 let⟨p,ok⟩:=r;simp only at h1 hd;subst h1;simp[zsr];apply gQ mp;simp;apply gQ hd;simp;rw[wI,wI];apply gQ hr;simp[D.er]
set_option maxRecDepth 100000 in
def zKt:h_ Pg 17 [.one (.str (bs [102,110,32,109,97,105,110,40,120,41,32,61,32,49,32,43,32,50,59]))] (.agg [.sl oK 1 [],.int .i64 0,.int .i64 0,.str (bs [51])]):=zya mk1 oD zJh
set_option maxRecDepth 100000 in
def zKu:h_ Pg 17 [.one (.str (bs [102,110,32,102,40,120,58,32,105,110,116,41,32,61,32,102,110,32,40,121,58,32,105,110,116,41,32,61,62,32,120,32,43,32,121,59,32,102,110,32,109,97,105,110,40,120,41,32,61,32,108,101,116,32,97,32,61,32,112,114,105,110,116,40,123,98,58,32,49,44,32,97,58,32,34,34,125,41,59,32,102,40,49,41,40,50,41,32,47,32,48,59]))] (.agg [.sl oK 1 [[.str Oo]],.int .i64 2,.int .i64 1,.str ⟨#[]⟩]):=zya mk2 oD zJi
set_option maxRecDepth 100000 in
def Oq:h_ Pg 7 [] (.one (.bool tT)):=by
 refine zzr oC λo cx hN hp=>?_;have ha:=zKt;have hb:=zKu;simp[zn6];apply gQ ha;simp;apply gQ hb;simp[Oo]
def zKH{n:Nat}{ds:oQ}(h:nz Tryz.prog n 69 ds):∃x:fD × fD,ds=jg x:=by
 let⟨m,_,h⟩:=zyi Tryz.underlying69 h;obtain⟨a,b,rfl,ha,h⟩:=XE h;obtain⟨c,d,rfl,hc,h⟩:=XE h;obtain rfl:=zEV h;obtain⟨s,rfl⟩:=XD Tryz.underlying9 ha;obtain⟨i,rfl⟩:=XD Tryz.underlying9 hc;exact⟨(s,i),rfl⟩
def zJG{n:Nat}{ds:oQ}(h:nz Tryz.prog n 22 ds):∃l:ow,ds=[.sl oK 2 (l.map jg)]:=
 zzD (enc:=jg) Tryz.underlying22 kR (λm _ x hx=>zKH hx) h
def types:qD:=[4,9,22,69]
theorem own:ownKnob Tryz.prog.godebug=nN:=kR
theorem laidOut:laidOutB Tryz.prog=tT:=kR
theorem Ot:(types.all λt=>Fa Tryz.prog types t&&Tryz.prog.readableRec t&&decide (t<Tryz.prog.types.size))=tT:=kR
theorem noGnd : Tryz.prog.globalNamed "strings.asciiSpace" = nN := by kernel_rfl
theorem zLD:Abs.isAgg Tryz.prog 22=oK:=kR
theorem V8:Abs.isAgg Tryz.prog 4=oK:=kR
def Ou{dvs:sQ}(h:IJ Tryz.prog [22,4] dvs):∃(l:ow) (k:Bool),dvs=[.one (.sl oK 2 (l.map jg)),.one (.bool k)]:=by
 match dvs,h with
 | a::r,h=>
  simp only[IJ,zLD,xC]at h;obtain⟨⟨n,x,h1,rfl⟩,h⟩:=h;obtain⟨l,rfl⟩:=zJG h1
  match r,h with
  |b::r,h=>
   simp only[IJ,V8,xC]at h;obtain⟨⟨n,x,h1,rfl⟩,rfl⟩:=h;obtain⟨k,rfl⟩:=zCp Tryz.underlying4 h1;exact⟨l,k,rfl⟩
@[simp] theorem lC.get1(p:lC)(h:1<lN p.enc):p.enc[1]=.int .i64 p.main:=rfl
theorem EW(l:ow)(trim:Bool):h_ Pg 5 [.one (.sl oK 2 (l.map jg)),.one (.bool trim)] (.one (.bool tT)):=by
 refine zsu oC λo cx hN hp=>?_;have hpr:=Kc l;have hpk:=λh=>LK (l:=l) h;generalize uH l=r at*
 let⟨p,ok⟩:=r;simp only at hpk;simp[zi9];apply gQ Oq;simp;apply gQ hpr;simp;by_cases hok:ok=tT;rotate_left
 .simp[hok]
 have h:=hpk hok;have F:=LW h trim;have hl:(t? trim p).length<=zaf:=by have:=F.len;unfold zaf;omega
 have hg:=VR hl (λh=>F.gh h) p.main trim;have hn:=Oi p h trim;have hc:=UC _ (JC h trim);have hm:(rC trim p).main=p.main:=rfl;unfold t? at*
 generalize ji (Ct (rC trim p)) p.main trim=r at*
 let⟨c,e⟩:=r;have h17:=zI1 c;simp[hok];apply gQ hn;simp;apply gQ hc;simp[hm];apply gQ hg;simp;apply gQ hg;simp;apply gQ h17;simp
end Go.Gr
namespace Go.Gr
open Go.Abs Go.Proofs List
variable {l:List B?}{b:Prop}
def zAK{Q:Nat->Ins->Prop}:∀{l:List Ins} {i k:Nat} {x:Ins},mg Q i l->l[k]?=sS x->Q (i+k) x
|[],i,k,x,h,e=>by simp at e
|y::l,i,0,x,h,e=>by
 simp only[getElem?_cons_zero,aU]at e;subst e;exact h.1
|y::l,i,k+1,x,h,e=>by
 have:=zAK (k:=k) h.2 (uM e);rwa[show i+1+k=i+(k+1) by omega]at this
def rz.ins{l:og}{R:iT}{f:B?}{p:jv}(q:rz l b R f p){k:Nat}{x:Ins}(hx:p.code[k]?=sS x):x=⟨23,p.k_+1,0,0⟩/\k+1=lN p.code\/(k+1<lN p.code/\ry l b 0 R p.p_ (lN p.code-1) k x):=by
 let⟨xs,e1,e2⟩:=q.code;have hl:=dM length e1;simp only[aV,length_cons,length_nil]at hl;have hlx:lN p.code-1=lN xs:=oM;rw[hlx];by_cases hk:k<lN xs
 .right;rw[e1,aj hk]at hx;exact⟨oM,uM (zAK e2 hx)⟩
 .left;have hk2:k<lN p.code:=by
   have:=(List.getElem?_eq_some_iff.1 hx).1;exact this
  have hk':k=lN xs:=oM;rw[e1,hk']at hx;simp only[ay (aJ _),Nat.sub_self,getElem?_cons_zero,aU]at hx;exact⟨by rw[<-hx,q.k_],oM⟩
def V9{l:og}(H:∀f,f∈l->nX l b f){main:Int}{merge:Bool}{c:iN}{e:Int}(h0:e=0)(he:ji l main merge=(c,e)):∃R,ll l G0=sS R/\lN l<=4096/\c=(kw R main merge).1/\GI R/\lN c.procs=lN l/\∀(j:Nat) (f:B?) (p:jv),l[j]?=sS f->c.procs[j]?=sS p->rz l b R f p:=by
 rcases V6 H main merge with h|⟨R,h1,h2,h3,h,h4,h5⟩
 .rw[h]at he;cases he;cases h0
 .rw[h]at he;cases he;exact⟨R,h3,h1,rfl,h2,h4,h5⟩
def zCd{l:og}{b:Prop}(H:∀f,f∈l->nX l b f){main:Int}{merge:Bool}{c:iN}{e:Int}(h0:e=0)(he:ji l main merge=(c,e)){j k:Nat}(hj:j<lN c.procs)(hk:k<c.procs[j].code.length)(ho:c.procs[j].code[k].op=24\/c.procs[j].code[k].op=25):(k:Int)<c.procs[j].code[k].b:=by
 let⟨R,_,_,e1,_,h4,h5⟩:=V9 H h0 he;have _q:j<lN l:=oM;rcases(h5 j l[j] _ (aA _q) (aA hj)).ins (aA hk)with⟨h,_⟩|⟨_,h⟩
 .rw[h]at ho;simp at ho
 .exact(h.kj ho).1
def zAL{l:og}{b:Prop}(H:∀f,f∈l->nX l b f){main:Int}{merge:Bool}{c:iN}{e:Int}(he:ji l main merge=(c,e)):lN c.procs<=4096/\∀(j:Nat) (hj:j<lN c.procs),c.procs[j].code.length<=65536:=by
 rcases V6 H main merge with h|⟨R,h1,h2,h3,h,h4,h5⟩
 .rw[h]at he;cases he;simp[yC]
 .rw[h]at he;cases he;refine⟨qM,λj hj=>?_⟩;have _q:j<lN l:=by simp only at hj;omega
  exact(h5 j l[j] _ (aA _q) (aA hj)).few
def EX(l:ow)(trim:Bool):h_ Pg 4 [.one (.sl oK 2 (l.map jg)),.one (.bool trim)] (.one (.bool tT)):=by
 refine zst oC λo cx hN hp=>?_;have hpr:=Kc l;have hpk:=λh=>LK (l:=l) h;generalize uH l=r at*
 let⟨p,ok⟩:=r;simp only at hpk;simp[zi8];apply gQ Oq;simp;apply gQ hpr;simp;by_cases hok:ok=tT;rotate_left
 .simp[hok]
 have h:=hpk hok;have F:=LW h trim;have hd:=V7 h trim;have ha:=λc e h0 he j k=>@zCd _ _ F.fns p.main trim c e h0 he j k;have hs:=λc e he=>@zAL _ _ F.fns p.main trim c e he;generalize ji (t? trim p) p.main trim=r at*
 let⟨c,e⟩:=r;have hs:=hs c e rfl;have ha:=λh0 j k=>ha c e h0 rfl j k;simp[hok];apply gQ hd;simp;by_cases he:e=0;rotate_left
 .simp[he]
 have ha:=λj k=>ha he j k;simp[he];refine fM gm hp (λi:Nat=>i<=lN c.procs) (λi=>[(11,.c (.d (.int .i64 i))),(8,.c (.ptr 0 0))]) (λ_=>[.box (c.enc.map .d)]) (λi=>lN c.procs-i) 0 [1] oC oC λi i1=>?_;simp[zhG];apply gM<;>intro h
 .have hi:i<lN c.procs:=uM h;simp[hi];refine fM gm hp (λk:Nat=>k<=c.procs[i].code.length) (λk=>[(12,.c (.d (.int .i64 k))),(11,.c (.d (.int .i64 i))),(8,.c (.ptr 0 0))]) (λ_=>[.box (c.enc.map .d)]) (λk=>c.procs[i].code.length-k) 0 [0] oC oC λk k1=>?_;unfold zhF;simp[hi];apply gM<;>intro h2
  .have hk:k<c.procs[i].code.length:=uM h2;have hlk:=hs.2 i hi;have hw:=wI (n:=(k:Int)+1);have hak:=ha i k hi hk;simp[hi,hk,Ins.enc,cut];apply gM<;>intro q1
   .apply gM<;>intro q2
    .have hb:=hak (.inr (uM q2));have hb2:decide (c.procs[i].code[k].b<=(k:Int))=oK:=by simp;omega
     simp[hb2];apply fE (k+1) [0] oM oM;simp[hw]
    .apply fE (k+1) [0] oM oM;simp[hw]
   .have hb:=hak (.inl (uM q1));have hb2:decide (c.procs[i].code[k].b<=(k:Int))=oK:=by simp;omega
    simp[hb2];apply fE (k+1) [0] oM oM;simp[hw]
  .have hw:=wI (n:=(i:Int)+1);apply fE (i+1) [0] oM oM;simp[hw]
 .simp
end Go.Gr
