/- Of ours. -/
import Derived.Test.YtlfjlokfciejnaaGreatJ01
import Derived.Laws.StructEq
set_option maxRecDepth 20000
set_option maxHeartbeats 4000000
set_option linter.unusedVariables false
set_option linter.unusedSectionVars false
set_option linter.unusedSimpArgs false
set_option linter.defProp false
open List renaming length->lN
open Bool renaming true->tT,false->oK
open Option renaming some->sS,none->nN
namespace Go.Abs
variable {us:List Value}
variable [jE]
section
variable {P:Program} {get:Nat->AV} {m:Hp} {n:Nat}
def j_.storeAt{B o:Nat}{us:oP}{U:TypeId}{w:World}{vs:oP}(hB:w.heap[B]?=sS (.cells us.toArray U (0,0)))(hle:o+lN vs<=lN us)(h1:∀x,x∈vs->x.one1=tT):
  j_ P (Go.storeCells ⟨B,o,nN⟩ vs 0) w () {w with heap:=w.heap.setIfInBounds B (.cells (Abs.z_ us o vs).toArray U (0,0))}:=by
 by_cases h0:vs=[]
 .subst h0;simp only[Abs.z_];have e:w.heap.setIfInBounds B (.cells us.toArray U (0,0))=w.heap:=by
   apply Array.ext_getElem?;intro j;by_cases hj:B=j
   .subst hj;have _k:B<w.heap.size:=by
     rcases aY B w.heap.size with h|h
     .exact h
     .rw[bI h]at hB;cases hB
    rw[dJ,aC _k,hB]
   .rw[bU hj]
  rw[e];exact fF _
 .have:=j_.storeCells (P:=P) o vs 0 us w hB (uM hle) h1 h0;simp only[Nat.add_zero]at this;exact this
def gp.grown{ph:PH}{ρ:RM}{s:Nat}{es ys:oh}{us new:oP}{len:Nat}(r:gp ph ρ s es us)(hl:len<=lN es)(r':gp ph ρ s ys new)(hn:lN new=lN ys*s)
  (hle:len*s+lN new<=lN us):gp ph ρ s (es.take len++ys) (Abs.z_ us (len*s) new):=by
 rw[L8 _ _ _ hle,dC];have h1:=(r.takeEs len).takeAll;have hlen:(es.take len).length=len:=by simp;omega
 rw[hlen]at h1;exact h1.append (by rw[hlen];simp;omega) (r'.more _)
def zCn{o:Oper} {c:Call} {T T':TypeId} {ox oy:Operand} {s bytes:Nat} {x y:MX} (ho:o.op=.call c) (hb:c.callee=.builtin .append) (ha:c.args.toList=[ox,oy]) (hta:c.argTypes.toList=[T,T'])
  (hx:M_ x ox=tT) (hy:M_ y oy=tT) (hni:isInt P T'=oK) (hsome:(P.underlying T').isSome=tT) {i:TypeInfo} (hi:BI P T=sS i) (c1:i.size=s) (c2:i.bytes=bytes) (c3:0<bytes) (c3':bytes<=1073741824) (c4:0<s)
  (hz:i.zero.isSome=tT) (hzl:(zeroOf i).length=s) {K:AV->oO->oU->Prop}
  (hK:match X get x with
  |.c (.x_ s' b off len)=>match m b with
   | .arr s'' es=>s=s'/\s=s''/\off=0/\len<=lN es/\m n=.c?/\qb get m s (λys rd=>(len+lN ys)*bytes<=70368744177664/\(rd=[]\/rd=[b]\/b∉rd)/\
     K (.c (.x_ s n 0 (len+lN ys))) rd [(b,.dead),(n,.arr s (es.take len++ys))]) y
   |_=>False
  |.c (.d (.sl tT s' []))=>m n=.c?/\qb get m s (λys rd=>lN ys*bytes<=70368744177664/\K (.c (.x_ s n 0 (lN ys))) rd [(n,.arr s ys)]) y
  |.c (.d (.sl tT s' (e::es)))=>s=s'/\m n=.c?/\qb get m s (λys rd=>(ys=[]->K (.c (.d (.sl tT s (e::es)))) rd [])/\(ys≠[]->((e::es).length+lN ys)*bytes<=70368744177664/\K (.c (.x_ s n 0 ((e::es).length+lN ys))) rd [(n,.arr s ((e::es).map (·.map .d)++ys))])) y
  |_=>False):∃v rd wr,gz P o get m rd wr v/\K v rd wr:=by
 obtain⟨d',hu'⟩:=bN.1 hsome;have _Z:∀k,d'≠.int k:=by
  intro k hk;subst hk;simp[isInt,hu']at hni
 obtain⟨et,hu,hei⟩:=Ht hi;obtain⟨zv,ez⟩:=bN.1 hz;have e0:zeroOf i=zv.cells.toList:=by simp[zeroOf,ez]
 have hzs:zv.cells.size=s:=by rw[e0]at hzl;simpa using hzl
 have _v:c.args=#[ox,oy]:=by rw[<-bG (xs:=c.args),ha]
 have htys:c.argTypes=#[T,T']:=by rw[<-bG (xs:=c.argTypes),hta]
 -- the operation's run, out of append's
 have wrap:∀{a:Act} {w w':World} {v:Value},j_ P (Builtin.append_ #[T,T'] o.type #[a.eval ox,a.eval oy]) w v w'->j_ P (execOp a.eval o) w (.value v) w':=by
  intro a w w' v h;unfold execOp;rw[ho];show j_ P (do let d<-resolve a.eval c o.type;invoke d.target d.args) w _ w';unfold resolve;rw[hb,_v,htys];refine(fF _).bind ?_;simp only[invoke,List.map_toArray,List.map_cons,List.map_nil];exact h.bind (fF _)
 have ops:∀k,(ox=.tmp k\/oy=.tmp k)->Operand.tmp k∈o.op.operands:=by
  intro k hk;rw[ho];simp only[Op.operands,Call.operands,hb,_v];rcases hk with hk|hk<;>simp[hk]
 have blen:∀{k:Nat},k*bytes<=70368744177664->k<=zaf:=λ{k} h=>by
  have:k*1<=k*bytes:=Nat.mul_le_mul_left _ c3;unfold zaf;omega
 -- a new block
 have fresh:∀{ph:PH} {ρ:RM} {m':Hp} {w:World} (hr:E_ ph ρ m' w.heap) (hn:m' n=.c?) {es ys:oh} {oldl newl:oP} {k newCap:Nat} (h1:gp ph ρ s es oldl) (h2:lN oldl=lN es*s)
   (h3:gp ph ρ s ys newl) (h4:lN newl=lN ys*s) (hk:lN es+lN ys=k) (_T:k<=newCap) (hkl:k<=zaf),
   E_ ph (upd ρ n (sS (w.heap.size,newCap))) (upd m' n (.arr s (es++ys))) (w.heap.push (.cells (oldl.toArray++newl.toArray++Builtin.zeroCells zv.cells (newCap-k)) et))/\
   Step ph ρ m' w.heap ph (upd ρ n (sS (w.heap.size,newCap))) (upd m' n (.arr s (es++ys))) (w.heap.push (.cells (oldl.toArray++newl.toArray++Builtin.zeroCells zv.cells (newCap-k)) et)):=by
  intro ph ρ m' w hr hn es ys oldl newl k newCap h1 h2 h3 h4 hk _T hkl;refine hr.pushO _ hn newCap (blk:=.arr s (es++ys)) oC (.inr ⟨oldl++newl++(Builtin.zeroCells zv.cells (newCap-k)).toList,et,?_,?_,?_,?_,?_⟩)
  .rw[H7];congr 2;apply dV;simp
  .have hzc:(Builtin.zeroCells zv.cells (newCap-k)).toList.length=(newCap-k)*s:=by simp[Builtin.zeroCells,hzs]
   rw[aV,aV,hzc,h2,h4,<-bF,<-bF];congr 1;omega
  .simp;omega
  .simp;omega
  .have rle:=FT (ρ:=ρ) (p:=(w.heap.size,newCap)) ((hr.dom n).1 hn);have:=(h1.append h2 h3).more (Builtin.zeroCells zv.cells (newCap-k)).toList;exact gp.mono (fU ph) rle _ _ this
 split at hK
 next s' b off len ex=>
  split at hK
  next s'' es eb=>
   obtain⟨k1,k2,k3,k4,hn,hK⟩:=hK;subst k1 k2 k3;obtain⟨ys,rd,⟨hbnd,hrd,kk⟩,hsrc⟩:=Lb (P:=P) hK;refine⟨_,_,_,gz.E? λm' h1 h2 ph ρ w a hr hg=>?_,kk⟩;have r1:=iV hx (ph:=ph) (ρ:=ρ) (get:=get) (a:=a) λk hk=>hg k (ops k (.inl hk));have r2:=iV hy (ph:=ph) (ρ:=ρ) (get:=get) (a:=a) λk hk=>hg k (ops k (.inr hk));have eb':m' b=.arr s es:=(h2 (b,.dead) oC).trans eb;have hn':m' n=.c?:=(h2 (n,.arr s (es.take len++ys)) oC).trans hn;have hnb:n≠b:=λhh=>by subst hh;rw[eb']at hn';cases hn'
   obtain⟨new,s1,s2,s3,s4⟩:=hsrc (λb' hb'=>h1 b' hb') hr r2;rw[ex]at r1;simp only[g_,m_]at r1;obtain⟨p,base,p1,p2,p3,p4,p5⟩:=r1;have hone:=gp.one s4 s3;simp only[Nat.zero_add]at p3;simp only[dW]at p2;have _Q:=hr.own b p p1;rw[eb']at _Q;have hl:=blen hbnd;by_cases hin:len+lN ys<=p.2
   ·-- there is room
    by_cases hp0:p.2=0
    .have hlen0:len=0:=oM;have hys:ys=[]:=aW.1 oM;subst hlen0 hys;have _w:new=[]:=aW.1 (by simpa using s3);subst _w;obtain⟨K1,S1⟩:=hr.kill (b:=b) (by rw[eb'];simp);obtain⟨K2,S2⟩:=K1.none (b:=n) (by rw[zao _ _ hnb];exact hn') s;refine⟨ph,_,w,.slice base 0 p.2,wrap ?_,S1.trans S2,K2,fZ w,?_⟩
     .rw[p2]
      have:=La (P:=P) (T:=T) (T':=T') (ty:=o.type) (i:=i) (base:=base) (sLen:=0) (sCap:=p.2) (k:=0) (x:=a.eval oy) (w:=w) (w':=w) (new:=#[]) hu hei hu' _Z s1 oM (by rw[c1];exact s2 w rfl)
       (λq hq=>by simp only[bW];exact fF _) (λ_=>rfl)
      simpa using this
     .simp only[g_,m_];refine⟨(0,0),base,zam _ _ _,by simp[hp0],oC,λh=>by simp at h,λq hq h=>by simp at h⟩
    .have _D:Real (m' b) p:=by rw[eb'];show 0<p.2;omega
     have hbase:=p4 oM;subst hbase;rcases _Q with⟨q1,q2⟩|⟨us,U,g1,g2,g3,g5,g4⟩
     .omega
     have hm3:(len+lN ys)*s<=p.2*s:=cZ s hin;have e2:(len+lN ys)*s=len*s+lN ys*s:=bF ..;have hle:len*s+lN new<=lN us:=oM;have _U:iw ph (upd ρ n (sS p)) p (.arr s (es.take len++ys)) (w.heap.setIfInBounds p.1 (.cells (Abs.z_ us (len*s) new).toArray U (0,0))):=by
      refine .inr ⟨_,U,JF _ _ (hr.J? p1 _D),by rw[CP];exact g2,by simp;omega,by simp;omega,?_⟩;exact gp.mono (fU ph) (FT ((hr.dom n).1 hn')) _ _ (gp.grown g4 k4 s4 s3 hle)
     obtain⟨K1,S1⟩:=hr.move (.cells (Abs.z_ us (len*s) new).toArray U (0,0)) p1 _D hn' (blk:=.arr s (es.take len++ys)) oC _U;refine⟨ph,_,{w with heap:=w.heap.setIfInBounds p.1 (.cells (Abs.z_ us (len*s) new).toArray U (0,0))},.slice (sS ⟨p.1,0,nN⟩) (len+lN ys) p.2,wrap ?_,S1,K1,fZ w,?_⟩
     .rw[p2];simp only[bW]at*
      refine La (i:=i) (new:=new.toArray) hu hei hu' _Z s1 hin (by rw[c1];exact s2 w rfl) (λq hq=>?_) (λh=>by cases h);cases hq;rw[Z?,c1];simp only[Nat.zero_add];exact j_.storeAt g1 (by simpa using hle) hone
     .simp only[g_,m_];exact⟨p,sS ⟨p.1,0,nN⟩,zam _ _ _,oC,by simpa using hin,λ_=>by simp,λq hq _=>by cases hq;rfl⟩
   ·-- a new row
    obtain⟨K0,S0⟩:=hr.kill (b:=b) (by rw[eb'];simp);have hold:∃oldl:oP,j_ P (Builtin.firstCells s len (.slice base len p.2)) (World.drew1 w) oldl.toArray (World.drew1 w)/\lN oldl=len*s/\gp ph ρ s (es.take len) oldl:=by
     rcases _Q with⟨q1,q2⟩|⟨us,U,g1,g2,g3,g5,g4⟩
     .have:len=0:=oM;subst this;refine⟨[],?_,oC,by simp[gp]⟩;cases base with
      |none=>exact rfl
      |some q=>simp only[Builtin.firstCells,bW];exact rfl
     .have hm3:len*s<=p.2*s:=cZ s p3;have hlen:(es.take len).length=len:=by simp;omega
      refine⟨us.take (len*s),?_,by simp;omega,by have:=(g4.takeEs len).takeAll;rwa[hlen]at this⟩;by_cases hp0:0<p.2
      .have hbase:=p4 hp0;subst hbase;simp only[Builtin.firstCells,bW];have hl2:(us.take (len*s)).length=len*s:=by simp;omega
       have:=fw (P:=P) (w:=World.drew1 w) (B:=p.1) (o:=0) (vs:=us.take (len*s)) (λj u hj=>by
        have _q:=Ho hj;rw[cell_of (show(World.drew1 w).heap[p.1]?=_ from g1)]
        simpa using _q)
       rw[hl2]at this;exact this
      .have:len=0:=oM;subst this;simp only[bW,List.take_zero];cases base with
       |none=>exact rfl
       |some q=>simp only[Builtin.firstCells,bW];exact rfl
    obtain⟨oldl,o1,o2,o3⟩:=hold
    obtain⟨newCap,_T,_E⟩:=PI (P:=P) (T:=T) (T':=T') (ty:=o.type) (i:=i) (base:=base) (sLen:=len) (sCap:=p.2) (k:=lN ys) (x:=a.eval oy) (w:=w) (old:=oldl.toArray) (new:=new.toArray) hu hei ez hu' _Z s1
     oM (by rw[c2];exact hbnd) oM oM (by rw[c1];exact o1) (by rw[c1];exact s2 _ rfl)
    have hlen:(es.take len).length=len:=by simp;omega
    obtain⟨K1,S1⟩:=fresh (w:=w) K0 (by rw[zao _ _ hnb];exact hn') (k:=len+lN ys) (newCap:=newCap) o3 (by rw[hlen];exact o2) s4 s3 (by rw[hlen]) _T hl;refine⟨ph,_,{World.drew1 w with heap:=w.heap.push (.cells (oldl.toArray++new.toArray++Builtin.zeroCells zv.cells (newCap-(len+lN ys))) et)},_,wrap (by rw[p2];exact _E),S0.trans S1,K1,⟨rfl,rfl,rfl⟩,?_⟩;simp only[g_,m_];exact⟨_,sS ⟨w.heap.size,0,nN⟩,zam _ _ _,oC,by simpa using _T,λ_=>by simp,λq hq _=>by cases hq;rfl⟩
  .exact hK.elim
 next s' ex=>
  obtain⟨hn,hK⟩:=hK;obtain⟨ys,rd,⟨hbnd,kk⟩,hsrc⟩:=Lb (P:=P) hK;refine⟨_,_,_,gz.E? λm' h1 h2 ph ρ w a hr hg=>?_,kk⟩;have r1:=iV hx (ph:=ph) (ρ:=ρ) (get:=get) (a:=a) λk hk=>hg k (ops k (.inl hk));have r2:=iV hy (ph:=ph) (ρ:=ρ) (get:=get) (a:=a) λk hk=>hg k (ops k (.inr hk));have hn':m' n=.c?:=(h2 (n,.arr s ys) oC).trans hn;obtain⟨new,s1,s2,s3,s4⟩:=hsrc (λb' hb'=>h1 b' hb') hr r2;rw[ex]at r1;simp only[g_,m_,RepD]at r1;obtain⟨base,cap,p1,p2,p3,p4,p5,p6,p7⟩:=r1;have hcap0:cap=0:=by simpa using p3
  subst hcap0;simp only[List.length_nil]at p1;by_cases hys:lN ys=0
  .have hys':ys=[]:=aW.1 hys;subst hys';have _w:new=[]:=aW.1 (by simpa using s3);subst _w;obtain⟨K2,S2⟩:=hr.none (b:=n) hn' s;refine⟨ph,_,w,.slice base 0 0,wrap ?_,S2,K2,fZ w,?_⟩
   .rw[p1]
    have:=La (P:=P) (T:=T) (T':=T') (ty:=o.type) (i:=i) (base:=base) (sLen:=0) (sCap:=0) (k:=0) (x:=a.eval oy) (w:=w) (w':=w) (new:=#[]) hu hei hu' _Z s1 oM (by rw[c1];exact s2 w rfl)
     (λq hq=>by simp only[bW];exact fF _) (λ_=>rfl)
    simpa using this
   .simp only[g_,m_];exact⟨(0,0),base,zam _ _ _,oC,oC,λh=>by simp at h,λq hq h=>by simp at h⟩
  .obtain⟨newCap,_T,_E⟩:=PI (P:=P) (T:=T) (T':=T') (ty:=o.type) (i:=i) (base:=base) (sLen:=0) (sCap:=0) (k:=lN ys) (x:=a.eval oy) (w:=w) (old:=#[]) (new:=new.toArray) hu hei ez hu' _Z s1
    oM (by rw[c2];simpa using hbnd) oM oM
    (by
     cases base with
     |none=>exact rfl
     |some q=>simp only[Builtin.firstCells,bW];exact rfl) (by rw[c1];exact s2 _ rfl)
   obtain⟨K1,S1⟩:=fresh (w:=w) hr hn' (es:=[]) (oldl:=[]) (k:=lN ys) (newCap:=newCap) (by simp[gp]) oC s4 s3 oC oM (blen hbnd);simp only[List.nil_append,Nat.zero_add]at K1 S1 _E;refine⟨ph,_,{World.drew1 w with heap:=w.heap.push (.cells ((#[]:Array Value)++new.toArray++Builtin.zeroCells zv.cells (newCap-lN ys)) et)},_,wrap (by rw[p1];exact _E),S1,K1,⟨rfl,rfl,rfl⟩,?_⟩;simp only[g_,m_];exact⟨_,sS ⟨w.heap.size,0,nN⟩,zam _ _ _,oC,by simp;omega,λ_=>by simp,λq hq _=>by cases hq;rfl⟩
 next s' e es ex=>
  obtain⟨k1,hn,hK⟩:=hK;subst k1;obtain⟨ys,rd,⟨hemp,hfull⟩,hsrc⟩:=Lb (P:=P) hK;by_cases hye:ys=[]
  .have kk:=hemp hye;subst hye;refine⟨_,_,_,gz.E? λm' h1 h2 ph ρ w a hr hg=>?_,kk⟩;have r1:=iV hx (ph:=ph) (ρ:=ρ) (get:=get) (a:=a) λk hk=>hg k (ops k (.inl hk));have r2:=iV hy (ph:=ph) (ρ:=ρ) (get:=get) (a:=a) λk hk=>hg k (ops k (.inr hk));obtain⟨new,s1,s2,s3,s4⟩:=hsrc (λb' hb'=>h1 b' hb') hr r2;have _w:new=[]:=aW.1 (by simpa using s3);subst _w;rw[ex]at r1;have r1':=r1;simp only[g_,m_,RepD]at r1;obtain⟨base,cap,p1,p2,p3,p4,p5,p6,p7⟩:=r1;have hcap0:cap=(e::es).length:=p3 trivial;refine⟨ph,ρ,w,a.eval ox,wrap ?_,Step.refl _ _ _ _,hr,fZ w,r1'⟩;rw[p1]
   have:=La (P:=P) (T:=T) (T':=T') (ty:=o.type) (i:=i) (base:=base) (sLen:=(e::es).length) (sCap:=cap) (k:=0) (x:=a.eval oy) (w:=w) (w':=w) (new:=#[]) hu hei hu' _Z s1 oM (by rw[c1];exact s2 w rfl)
    (λq hq=>fF _) (λ_=>rfl)
   simpa using this
  obtain⟨hbnd,kk⟩:=hfull hye;have _A:=hye;generalize hes:e::es=l at ex hbnd kk;refine⟨_,_,_,gz.E? λm' h1 h2 ph ρ w a hr hg=>?_,kk⟩;have r1:=iV hx (ph:=ph) (ρ:=ρ) (get:=get) (a:=a) λk hk=>hg k (ops k (.inl hk));have r2:=iV hy (ph:=ph) (ρ:=ρ) (get:=get) (a:=a) λk hk=>hg k (ops k (.inr hk));have hn':m' n=.c?:=(h2 (n,.arr s (l.map (·.map .d)++ys)) oC).trans hn;obtain⟨new,s1,s2,s3,s4⟩:=hsrc (λb' hb'=>h1 b' hb') hr r2;rw[ex]at r1;simp only[g_,m_,RepD]at r1;obtain⟨base,cap,p1,p2,p3,p4,p5,p6,p7⟩:=r1;have hcap0:cap=lN l:=p3 trivial;subst hcap0;have hl0:0<lN l:=by rw[<-hes];simp
  have hys:0<lN ys:=by cases ys<;>simp_all
  have htot:=p7.total;have hold:∃oldl:oP,j_ P (Builtin.firstCells s (lN l) (.slice base (lN l) (lN l))) (World.drew1 w) oldl.toArray (World.drew1 w)/\lN oldl=lN l*s/\gp ph ρ s (l.map (·.map .d)) oldl:=by
   refine⟨(cellsAt ph base).take (lN l*s),?_,by simp;omega,?_⟩
   .cases base with
    |none=>have:=(p5 rfl).1;rw[this]at hl0;simp at hl0
    | some q=>
     obtain⟨B,off,spot⟩:=q;have:=p6 _ rfl hl0;simp only at this;subst this;simp only[Builtin.firstCells];have hlen:((cellsAt ph (sS ⟨B,off,nN⟩)).take (lN l*s)).length=lN l*s:=by simp;omega
     have:=fw (P:=P) (w:=World.drew1 w) (B:=B) (o:=off) (vs:=(cellsAt ph (sS ⟨B,off,nN⟩)).take (lN l*s)) (λj u hj=>by
      have _q:=Ho hj;simp only[cellsAt,bE]at _q;unfold hcells at _q;cases hB:ph B with
      |none=>rw[hB]at _q;simp at _q
      | some ob=>
       rw[hB]at _q;cases ob with
       |cells c T' fr=>
        rw[cell_of (show(World.drew1 w).heap[B]?=_ from hr.pers B _ hB)];simpa using _q
       |_=>simp at _q)
     rw[hlen]at this;exact this
   .have r8:=gp.of_E (ρ:=ρ) p7;have:=r8.takeAll;rwa[aa]at this
  obtain⟨oldl,o1,o2,o3⟩:=hold
  obtain⟨newCap,_T,_E⟩:=PI (P:=P) (T:=T) (T':=T') (ty:=o.type) (i:=i) (base:=base) (sLen:=lN l) (sCap:=lN l) (k:=lN ys) (x:=a.eval oy) (w:=w) (old:=oldl.toArray) (new:=new.toArray) hu hei ez hu' _Z s1
   oM (by rw[c2];exact hbnd) oM oM (by rw[c1];exact o1) (by rw[c1];exact s2 _ rfl)
  obtain⟨K1,S1⟩:=fresh (w:=w) hr hn' (es:=l.map (·.map .d)) (k:=lN l+lN ys) (newCap:=newCap) o3 (by simpa using o2) s4 s3 oC _T (blen hbnd);refine⟨ph,_,{World.drew1 w with heap:=w.heap.push (.cells (oldl.toArray++new.toArray++Builtin.zeroCells zv.cells (newCap-(lN l+lN ys))) et)},_,wrap (by rw[p1];exact _E),S1,K1,⟨rfl,rfl,rfl⟩,?_⟩;simp only[g_,m_];exact⟨_,sS ⟨w.heap.size,0,nN⟩,zam _ _ _,oC,by simp;omega,λ_=>by simp,λq hq _=>by cases hq;rfl⟩
 .exact hK.elim
end
end Go.Abs
namespace Go.Abs
variable {o:Oper}{x:MX}{ox:Operand}{c:Call}{T:TypeId}{w:World}{ρ:RM}{t:fD}{lo hi:Option MX}{l h mx:Option Operand}
variable [jE]
section
variable {P:Program} {get:Nat->AV} {m:Hp} {n:Nat}
def Lc(ho:o.op=.call c)(hb:c.callee=.builtin .len)(_v:c.args=#[ox])(htys:c.argTypes=#[T]){k:Nat}{ph:PH}{a:Act}(hk:k<=zaf)
  (hr:j_ P (Builtin.len_ #[T] o.type #[a.eval ox]) w (goInt k) w):∃vC,j_ P (execOp a.eval o) w (.value vC) w/\g_ ph ρ (.c (.d (.int .i64 k))) vC:=by
 refine⟨goInt k,?_,?_⟩
 .unfold execOp;rw[ho];show j_ P (do let d<-resolve a.eval c o.type;invoke d.target d.args) w _ w;unfold resolve;rw[hb,_v,htys];refine(fF _).bind ?_;simp only[invoke,List.map_toArray,List.map_cons,List.map_nil];exact hr.bind (fF _)
 .simp only[g_,m_];unfold RepD;unfold zaf at hk;refine⟨rfl,?_,?_⟩
  .simp only[IntKind.min,IntKind.signed,IntKind.bits];simp
  .simp only[IntKind.max,IntKind.signed,IntKind.bits];simp;omega
def zJf(ho:o.op=.call c)(hc:gu P (.len x) (.call c)=tT){K:AV->oO->Prop}
  (hK:match X get x with
  |.c (.d (.sl _ _ es))=>K (.c (.d (.int .i64 (lN es)))) []
  |.c (.x_ _ b off l)=>match m b with
   |.arr _ es=>off+l<=lN es/\K (.c (.d (.int .i64 l))) [b]
   |_=>False
  |.c (.d (.sc (.slice (sS _) l _)))=>l<=zaf/\K (.c (.d (.int .i64 l))) []
  |_=>False):∃v rd,gz P o get m rd [] v/\K v rd:=by
 simp only[gu]at hc;split at hc
 next ox T hb ha hta=>
  simp only[aG]at hc;let⟨hx,ht⟩:=hc;have _v:c.args=#[ox]:=by rw[<-bG (xs:=c.args),ha]
  have htys:c.argTypes=#[T]:=by rw[<-bG (xs:=c.argTypes),hta]
  have hop:∀k,ox=.tmp k->Operand.tmp k∈o.op.operands:=by
   intro k hk;rw[ho];simp[Op.operands,Call.operands,hb,_v,hk]
  split at ht
  next e hu=>
   have sl:∀{w:World} {a:Option Addr} {l cp:Nat},j_ P (Builtin.len_ #[T] o.type #[.slice a l cp]) w (goInt l) w:=by
    intro w a l cp;unfold Builtin.len_;refine(fP hu).bind ?_;exact fF _
   split at hK
   next fl s es ex=>
    refine⟨_,[],gz.Z_ λm' h1 ph ρ w a hr hg=>?_,hK⟩;have r1:=iV hx (ph:=ph) (ρ:=ρ) (get:=get) (a:=a) λk hk=>hg k (hop k hk);rw[ex]at r1;simp only[g_,m_,RepD]at r1;let⟨b,cap,e1,e2,e3,e4,_⟩:=r1;apply Lc ho hb _v htys e4;rw[e1];exact sl
   next s b off l ex=>
    split at hK
    next s' es eb=>
     let⟨k1,hK⟩:=hK;refine⟨_,[b],gz.Z_ λm' h1 ph ρ w a hr hg=>?_,hK⟩;have r1:=iV hx (ph:=ph) (ρ:=ρ) (get:=get) (a:=a) λk hk=>hg k (hop k hk);rw[ex]at r1;simp only[g_,m_]at r1;let⟨p,q,e0,e1,e2⟩:=r1;have _Q:=hr.own b p e0;rw[h1 b oC,eb]at _Q;have hlm:l<=zaf:=by
      rcases _Q with⟨_,h0⟩|⟨us,U,g1,g2,g3,g5,g4⟩
      .rw[h0]at k1;simp at k1;unfold zaf;omega
      .omega
     apply Lc ho hb _v htys hlm;rw[e1];exact sl
    .exact hK.elim
   next q l cp ex=>
    let⟨k1,hK⟩:=hK;refine⟨_,[],gz.Z_ λm' h1 ph ρ w a hr hg=>?_,hK⟩;have r1:=iV hx (ph:=ph) (ρ:=ρ) (get:=get) (a:=a) λk hk=>hg k (hop k hk);rw[ex]at r1;simp only[g_,m_,RepD]at r1;apply Lc ho hb _v htys k1;rw[r1];exact sl
   .exact hK.elim
  .cases ht
 .cases hc
def zHf(ho:o.op=.call c)(hc:gu P (.lenS x) (.call c)=tT)(ex:X get x=.c (.d (.str t))):gz P o get m [] [] (.c (.d (.int .i64 t.size))):=by
 simp only[gu]at hc;split at hc
 next ox T hb ha hta=>
  simp only[aG]at hc;let⟨hx,ht⟩:=hc;have _v:c.args=#[ox]:=by rw[<-bG (xs:=c.args),ha]
  have htys:c.argTypes=#[T]:=by rw[<-bG (xs:=c.argTypes),hta]
  have hop:∀k,ox=.tmp k->Operand.tmp k∈o.op.operands:=by
   intro k hk;rw[ho];simp[Op.operands,Call.operands,hb,_v,hk]
  split at ht
  next hu=>
   refine gz.Z_ λm' h1 ph ρ w a hr hg=>?_;have r1:=iV hx (ph:=ph) (ρ:=ρ) (get:=get) (a:=a) λk hk=>hg k (hop k hk);rw[ex]at r1;simp only[g_,m_,RepD]at r1;apply Lc ho hb _v htys r1.2;rw[r1.1];unfold Builtin.len_;refine(fP hu).bind ?_;exact fF _
  .cases ht
 .cases hc
def Ld(ho:o.op=.nilCheck ox)(hx:M_ x ox=tT)(hp:∀{ph:PH} {ρ:RM} {v:Value},g_ ph ρ (X get x) v->∃q,v=.pointer (sS q)):gz P o get m [] [] (X get x):=by
 refine gz.Z_ λm' h1 ph ρ w a hr hg=>⟨a.eval ox,?_,?_⟩
 .have r1:=iV hx (ph:=ph) (ρ:=ρ) (get:=get) (a:=a) λk hk=>hg k (by rw[ho];simp[Op.operands,hk]);let⟨q,e⟩:=hp r1;unfold execOp;rw[ho];simp only[e];exact fF _
 .exact iV hx λk hk=>hg k (by rw[ho];simp[Op.operands,hk])
def iC.nth{h:PH}:∀{xs:List AV} {vs:List Value} {j:Nat} {x:AV},iC h ρ xs vs->xs[j]?=sS x->∃v,vs[j]?=sS v/\g_ h ρ x v
|[],_,j,x,_,e=>by simp at e
|_::_,[],_,_,r,_=>by simp[iC]at r
|d::ds,v::vs,0,x,r,e=>by
 simp only[iC]at r;simp at e;subst e;exact⟨v,oC,r.1⟩
|d::ds,v::vs,j+1,x,r,e=>by
 simp only[iC]at r;simp only[List.getElem?_cons_succ]at e⊢;exact iC.nth r.2 e
def zzB{i:Nat}{vs:oo}{v:AV}(ho:o.op=.extract ox i)(hx:M_ x ox=tT)(ex:X get x=.a? vs)(ev:vs[i]?=sS v):gz P o get m [] [] v:=by
 refine gz.Z_ λm' h1 ph ρ w a hr hg=>?_;have r1:=iV hx (ph:=ph) (ρ:=ρ) (get:=get) (a:=a) λk hk=>hg k (by rw[ho];simp[Op.operands,hk]);rw[ex]at r1;simp only[g_]at r1;let⟨us,e1,e2⟩:=r1;let⟨u,e3,e4⟩:=e2.nth ev;refine⟨u,?_,e4⟩;unfold execOp;rw[ho];refine fG ?_ (fF _);show j_ P (Instr.extract (a.eval ox) i) w u w;rw[e1];unfold Instr.extract;simp only[List.getElem?_toArray,e3];exact fF _
def Hw{get:Nat->AV}{d:Nat}{K:Nat->Prop}{x:Option MX}{ox:Option Operand}(h:bnd get d K x)(hc:CU x ox=tT):∃j,K j/\(ox=nN->j=d)/\
  ∀{ph:PH} {ρ:RM} {a:Act},(∀k,ox=sS (.tmp k)->g_ ph ρ (get k) (a.tmps.getD k undef))->∀y,ox=sS y->∃k,a.eval y=.int k j:=by
 unfold bnd at h;split at h
 .cases ox with
  |none=>exact⟨d,h,λ_=>rfl,λ_ y hy=>by cases hy⟩
  |some _=>simp[CU]at hc
 next x=>
  cases ox with
  |none=>simp[CU]at hc
  | some y=>
   simp only[CU]at hc;split at h
   next k j ex=>
    let⟨h1,h2⟩:=h;refine⟨j.toNat,h2,λhh=>(by cases hh),λ{ph ρ a} hg y' hy'=>?_⟩;cases hy';have r1:=iV hc (ph:=ph) (ρ:=ρ) (get:=get) (a:=a) λk hk=>hg k (by rw[hk]);rw[ex]at r1;simp only[g_,m_,RepD]at r1;exact⟨k,by rw[r1.1];congr 1;omega⟩
   .exact h.elim
def Vx{x:Value}{k:IntKind}{j y:Nat}{code:BoundsCode}(e:x=.int k j)(h:j<=y):j_ P (Instr.sliceBound x y code) w j w:=by
 rw[e];unfold Instr.sliceBound;refine(fF (k,(j:Int))).bind ?_;dsimp only;rw[aC oM];have:((j:Int)).toNat=j:=oC;rw[this];exact fF _
def Vy{isSlice:Bool}{len cap:Nat}{low high:Option Value}{l h:Nat}(hl:∀x,low=sS x->∃k,x=.int k l)(hl0:low=nN->l=0)(hh:∀x,high=sS x->∃k,x=.int k h)(hh0:high=nN->h=len)
  (h1:l<=h) (h2:h<=cap):j_ P (Instr.sliceBounds isSlice len cap low high nN) w (l,h,cap) w:=by
 unfold Instr.sliceBounds;refine(fF cap).bind ?_;dsimp only
 have e2:∀(K:Nat->Sem (Nat × Nat × Nat)),(∀v,K v=Pure.pure (v,h,cap))->j_ P (match low with
   |some v=>do
    let l<-Instr.sliceBound v h (if(nN:Option Value).isSome=tT then .slice3C else .sliceB)
    K l
   |none=>do
    let l<-Pure.pure 0
    K l) w (l,h,cap) w:=by
  intro K hK;cases low with
  |none=>
   have:=hl0 rfl;subst this;refine(fF 0).bind ?_;rw[hK];exact fF _
  |some v=>
   let⟨k,e⟩:=hl v rfl;refine(Vx e h1).bind ?_;rw[hK];exact fF _
 cases high with
 |none=>
  have:=hh0 rfl;subst this;refine(fF _).bind ?_;exact e2 _ λ_=>rfl
 |some v=>
  let⟨k,e⟩:=hh v rfl;refine(Vx e h2).bind ?_;exact e2 _ λ_=>rfl
def JK{α β:Type}{x:Option α}{f:α->β}(h:x.map f=nN):x=nN:=by cases x<;>simp_all
def zCl{x:Option MX}{o:Option Operand}(h:CU x o=tT):x.isNone=o.isNone:=by cases x<;>cases o<;>simp_all[CU]
def zEM{s:Nat}(ho:o.op=.slice T ox l h mx)(hc:gu P (.slice s x lo hi) (.slice T ox l h mx)=tT){K:AV->Prop}
  (hK:match X get x with
  |.c (.d (.sl e s' es))=>s=s'/\bnd get (lN es) (λh=>bnd get 0 (λl=>l<=h/\h<=lN es/\K (.c (.d (.sl (e&&hi.isNone) s ((es.take h).drop l))))) lo) hi
  |.c (.x_ s' b off len)=>s=s'/\bnd get len (λh=>bnd get 0 (λl=>l<=h/\h<=len/\K (.c (.x_ s b (off+l) (h-l)))) lo) hi
  |_=>False):∃v,gz P o get m [] [] v/\K v:=by
 simp only[gu,aG]at hc;obtain⟨⟨⟨⟨c0,c1⟩,hx⟩,c2⟩,c3⟩:=hc;have hmx:mx=nN:=by cases mx<;>simp_all
 subst hmx;split at c0
 next et het=>
  simp only[ae]at c0;obtain⟨e,hu,hei⟩:=Ht het;have ops:∀k,(ox=.tmp k\/l=sS (.tmp k)\/h=sS (.tmp k))->Operand.tmp k∈o.op.operands:=by
   intro k hk;rw[ho];simp only[Op.operands];rcases hk with hk|hk|hk<;>simp[hk]
  have base:∀(v:AV) (L H:Nat)
    (HL:∀{ph:PH} {ρ:RM} {a:Act},(∀k,l=sS (.tmp k)->g_ ph ρ (get k) (a.tmps.getD k undef))->∀y,l=sS y->∃k,a.eval y=.int k L)
    (HH:∀{ph:PH} {ρ:RM} {a:Act},(∀k,h=sS (.tmp k)->g_ ph ρ (get k) (a.tmps.getD k undef))->∀y,h=sS y->∃k,a.eval y=.int k H)
    (hl0:l=nN->L=0) (hLH:L<=H)
    (HV:∀(ph:PH) (ρ:RM) (p:Value),g_ ph ρ (X get x) p->∃A len cap,p=.slice A len cap/\(h=nN->H=len)/\H<=cap/\g_ ph ρ v (.slice (if cap=L then A else A.map (·.add (L*s))) (H-L) (cap-L))),gz P o get m [] [] v:=by
   intro v L H HL HH hl0 hLH HV;refine gz.Z_ λm' h1 ph ρ w a hr hg=>?_;have r1:=iV hx (ph:=ph) (ρ:=ρ) (get:=get) (a:=a) λk hk=>hg k (ops k (.inl hk));obtain⟨A,len,cap,e1,e2,e3,rv⟩:=HV ph ρ _ r1;refine⟨_,?_,rv⟩;unfold execOp;rw[ho];refine fG ?_ (fF _);show j_ P (Instr.sliceAt T (a.eval ox) (l.map a.eval) (h.map a.eval) nN) w _ w;rw[e1];unfold Instr.sliceAt;refine(fP hu).bind ?_;unfold Instr.slice;refine(fP hu).bind ?_;refine(Vy (l:=L) (h:=H) ?_ (λhh=>hl0 (JK hh)) ?_ (λhh=>e2 (JK hh)) hLH e3).bind ?_
   .intro y hy;cases hl:l with
    |none=>rw[hl]at hy;cases hy
    |some z=>
     rw[hl]at hy;simp only[Option.map_some,aU]at hy;subst hy;exact HL (λk hk=>hg k (ops k (.inr (.inl hk)))) z hl
   .intro y hy;cases hh:h with
    |none=>rw[hh]at hy;cases hy
    |some z=>
     rw[hh]at hy;simp only[Option.map_some,aU]at hy;subst hy;exact HH (λk hk=>hg k (ops k (.inr (.inr hk)))) z hh
   refine(fe hei).bind ?_;rw[c0];exact fF _
  split at hK
  next fl s' es ex=>
   obtain⟨k1,hK⟩:=hK;subst k1;obtain⟨H,hK,hH0,HH⟩:=Hw hK c3;obtain⟨L,⟨g1,g2,kk⟩,hL0,HL⟩:=Hw hK c2;refine⟨_,base _ L H HL HH hL0 g1 λph ρ p rp=>?_,kk⟩;rw[ex]at rp;simp only[g_,m_,RepD]at rp⊢;obtain⟨A,cap,r1,r2,r3,r4,r5,r6,r7⟩:=rp;have hlen:((es.take H).drop L).length=H-L:=by simp;omega
   refine⟨A,lN es,cap,r1,hH0,oM,_,_,by rw[hlen],oM,?_,oM,?_,?_,?_⟩
   .intro hf;simp only[aG]at hf;have hn:=zCl c3;rw[hf.2]at hn;have hh:h=nN:=by
     cases h with
     |none=>rfl
     |some _=>cases hn
    have:=hH0 hh;have:=r3 hf.1;omega
   .intro hA;split at hA
    .have:=r5 hA;rw[this.1];simp;omega
    .have hA':A=nN:=JK hA;have:=r5 hA';rw[this.1];simp;omega
   .intro p hp _T;split at hp
    .exact r6 p hp oM
    .cases A with
     |none=>cases hp
     |some q=>
      simp only[Option.map_some,aU]at hp;rw[<-hp];have:=r6 q rfl oM;obtain⟨B,of,sp⟩:=q;simp only at this;subst this;rw[Z?]
   .split
    next hcl=>
     have:(es.take H).drop L=[]:=aW.1 (by rw[hlen];omega);rw[this];simp[RepE]
    .cases A with
     |none=>have:=(r5 rfl).1;subst this;simp[RepE]
     |some q=>
      have:=r6 q rfl oM;obtain⟨B,of,sp⟩:=q;simp only at this;subst this;simp only[Option.map_some,Z?,cellsAt]at r7⊢;rw[<-bX];exact(r7.take H).drop L
  next s' b off len ex=>
   obtain⟨k1,hK⟩:=hK;subst k1;obtain⟨H,hK,hH0,HH⟩:=Hw hK c3;obtain⟨L,⟨g1,g2,kk⟩,hL0,HL⟩:=Hw hK c2;refine⟨_,base _ L H HL HH hL0 g1 λph ρ p rp=>?_,kk⟩;rw[ex]at rp;simp only[g_,m_]at rp⊢;obtain⟨q,A,r1,r2,r3,r4,r5⟩:=rp;refine⟨A,len,q.2-off,r2,hH0,oM,q,_,r1,by rw[Nat.sub_sub],oM,λ_k=>?_,λz hz _T=>?_⟩
   .rw[aB oM,r4 oM];simp only[Option.map_some,Z?,bF]
   .split at hz
    .exact r5 z hz oM
    .cases A with
     |none=>cases hz
     |some y=>
      simp only[Option.map_some,aU]at hz;rw[<-hz];have:=r5 y rfl oM;obtain⟨B,of,sp⟩:=y;simp only at this;subst this;rw[Z?]
  .exact hK.elim
 .cases c0
def zCm(ho:o.op=.slice T ox l h mx)(hc:gu P (.sliceS x lo hi) (.slice T ox l h mx)=tT){K:AV->Prop}
  (ex:X get x=.c (.d (.str t))) (hK:bnd get t.size (λh=>bnd get 0 (λl=>l<=h/\h<=t.size/\K (.c (.d (.str (t.extract l h))))) lo) hi):∃v,gz P o get m [] [] v/\K v:=by
 simp only[gu,aG]at hc;let⟨⟨⟨⟨c0,c1⟩,hx⟩,c2⟩,c3⟩:=hc;have hmx:mx=nN:=by cases mx<;>simp_all
 subst hmx;split at c0
 next hu=>
  have ops:∀k,(ox=.tmp k\/l=sS (.tmp k)\/h=sS (.tmp k))->Operand.tmp k∈o.op.operands:=by
   intro k hk;rw[ho];simp only[Op.operands];rcases hk with hk|hk|hk<;>simp[hk]
  let⟨H,hK,hH0,HH⟩:=Hw hK c3;let⟨L,⟨g1,g2,kk⟩,hL0,HL⟩:=Hw hK c2;refine⟨_,gz.Z_ λm' h1 ph ρ w a hr hg=>?_,kk⟩;have r1:=iV hx (ph:=ph) (ρ:=ρ) (get:=get) (a:=a) λk hk=>hg k (ops k (.inl hk));rw[ex]at r1;simp only[g_,m_,RepD]at r1;refine⟨.string (t.extract L H),?_,?_⟩
  .unfold execOp;rw[ho];refine fG ?_ (fF _);show j_ P (Instr.sliceAt T (a.eval ox) (l.map a.eval) (h.map a.eval) nN) w _ w;rw[r1.1];unfold Instr.sliceAt;refine(fP hu).bind ?_;unfold Instr.slice;refine(fP hu).bind ?_;refine(Vy (l:=L) (h:=H) ?_ (λhh=>hL0 (JK hh)) ?_ (λhh=>hH0 (JK hh)) g1 g2).bind ?_
   .intro y hy;cases hl:l with
    |none=>rw[hl]at hy;cases hy
    |some z=>
     rw[hl]at hy;simp only[Option.map_some,aU]at hy;subst hy;exact HL (λk hk=>hg k (ops k (.inr (.inl hk)))) z hl
   .intro y hy;cases hh:h with
    |none=>rw[hh]at hy;cases hy
    |some z=>
     rw[hh]at hy;simp only[Option.map_some,aU]at hy;subst hy;exact HH (λk hk=>hg k (ops k (.inr (.inr hk)))) z hh
   exact fF _
  .simp only[g_,m_];unfold RepD;refine⟨rfl,?_⟩;have:=r1.2;rw[ByteArray.size_extract];omega
 .cases c0
end
end Go.Abs
namespace Go.Abs
variable {T U kt:TypeId}{ph:PH}{x y:MX}{u v:Value}{o:Oper}{ρ:RM}{d_:TypeDesc}{d:D}{ox oy okk:Operand}{t ne ag mx:Bool}{z:List D}{w:World}{k:IntKind}{a j l:Int}{op:BinOp}{ms:List MapEntry}{us vs zs:List Value}{s:fD}
variable [jE]
section
variable {P:Program} {get:Nat->AV} {m:Hp} {n:Nat}
def Le(a b:fD):(a==b)=decide (a=b):=by
 rw[beq_toListBytes,toList_inj]
def wy:Nat->TypeDesc->Prop
 |0,.int _=>True
 |1,.string=>True
 |2,.bool=>True
 |_,_=>False
def DU:Nat->D->Prop
 |3,d=>∃k a s,d=.sc (.agg ⟨[.int k a,.string s]⟩)
 |_,_=>True
def Lf{kk:Nat}{v:AV}(e:tZ kk v=.c (.d d))(r:g_ ph ρ v u):RepD ph d u/\DU kk d:=by
 unfold tZ at e;split at e
 · rename_i k a s;simp only[AV.c.injEq,AC.d.injEq]at e;subst e;refine⟨?_,k,a,s,rfl⟩;simp only[g_]at r;let⟨vs,r1,r2,r3⟩:=r
   match vs,r2,r3,r1 with
   | [x,y],_,r3,r1=>
     simp only[gY,m_,RepD,and_true]at r3;let⟨⟨_,r4,_⟩,_,r5,_⟩:=r3;simp only[RepD];rw[r1,r4,r5]
 · cases e
 · rename_i h4 h3;subst e;simp only[g_,m_]at r;refine⟨r,?_⟩;unfold DU;split
   · first|exact(h3 rfl).elim|exact(h4 rfl).elim
   · trivial
def Vz{kk:Nat}(hk:wy kk d_){d':D}{u':Value}(r:RepD ph d u)(r':RepD ph d' u')(h:vP kk d d'=sS t):Instr.sameNow d_ u u'=sS t:=by
 unfold vP at h;split at h
 · split at h
   · rename_i hkk;cases h;simp only[RepD]at r r';obtain⟨rfl,_⟩:=r;obtain⟨rfl,_⟩:=r';cases d_<;>first|exact hk.elim|skip
     subst hkk;simp only[Instr.sameNow,if_true];exact dM sS (by rw[dh];simp)
   · cases h
 · cases h;simp only[RepD]at r r';obtain⟨rfl,_⟩:=r;obtain⟨rfl,_⟩:=r';cases d_<;>first|exact hk.elim|skip
   simp[Instr.sameNow,Le]
 · cases h;simp only[RepD]at r r';subst r;subst r';cases d_<;>first|exact hk.elim|skip
   simp[Instr.sameNow]
 · exact hk.elim
 · cases h
def WA{kk:Nat}  (hk:wy kk d_)     (r:RepD ph d u):∀{es:List (D × AV)} {ms:List MapEntry} {i:Nat} {res:Option (Nat × AV)},Y' ph ρ es ms->d? kk d es i=sS res->
   ∃ _z,Instr.findNow d_ u ms i=sS _z/\(match res,_z with
     |none,nN=>True
     |some (j,v),sS (j',x)=>j=j'/\i<=j/\(∃e,ms[j-i]?=sS e/\e.val=x/\Instr.sameNow d_ u e.key=sS tT)/\g_ ph ρ v x
     |_,_=>False)
 | [],ms,i,res,rm,h=>by
   simp only[Y']at rm;subst rm;simp only[d?]at h;cases h;exact⟨nN,rfl,trivial⟩
 |e::es,[],i,res,rm,h=>by simp[Y']at rm
 | e ::es,x::ms,i,res,rm,h=>by
   simp only[Y']at rm;simp only[d?]at h;split at h
   · rename_i hq;cases h;have:=Vz hk r rm.1.1 hq;exact⟨sS (i,x.val),by simp[Instr.findNow,this],rfl,aJ _,⟨x,oC,rfl,this⟩,rm.1.2⟩
   · rename_i hq;have:=Vz hk r rm.1.1 hq;let⟨_z,h1,h2⟩:=WA hk r rm.2 h;refine⟨_z,by simp only[Instr.findNow,this];exact h1,?_⟩
     match res,_z,h2 with
     |none,nN,_=>trivial
     | some (j,v),sS (j',y),⟨g1,g2,⟨e',g3,g4⟩,g5⟩=>
       refine⟨g1,oM,⟨e',?_,g4⟩,g5⟩;rw[show j-i=(j-(i+1))+1 by omega];simpa using g3
   · cases h
def zyZ{k:TypeId}(hu:P.underlying k=sS d_){ms:sU}{r:Option (Nat × Value)}(h:Instr.findNow d_ u ms 0=sS r):j_ P (Instr.findKey k u ms) w r w:=by
 unfold Instr.findKey;refine(fP hu).bind ?_;rw[h];exact fF _
def zv0{k:TypeId}{kk:Nat}(hk:wy kk d_)(hu:P.underlying k=sS d_)(b:Bool)(u:Value)(w:World):j_ P (Instr.checkKey b 10000 k u) w () w:=by
 unfold Instr.checkKey;refine(fP hu).bind ?_
 match kk,d_,hk with
 |0,.int _,_=>cases u<;>exact fF _
 |1,.string,_=>cases u<;>exact fF _
 |2,.bool,_=>cases u<;>exact fF _
def zHS{kk:Nat}(hk:wy kk d_){e:Value}(h:Instr.sameNow d_ u e=sS tT)(w:World):j_ P (Instr.keyThatStays e u) w u w:=by
 unfold Instr.keyThatStays;have:Instr.sameBits 10000 e u=tT:=by
   match kk,d_,hk with
   | 0,.int _,_=>
     cases u<;>cases e<;>simp[Instr.sameNow]at h;simp[Instr.sameBits,h]
   | 1,.string,_=>
     cases u<;>cases e<;>simp[Instr.sameNow,Le]at h;simp[Instr.sameBits,Le,h]
   | 2,.bool,_=>
     cases u<;>cases e<;>simp[Instr.sameNow]at h;simp[Instr.sameBits,h]
 rw[aC this];exact fF _
def Hy{kk:Nat}(hk:wy kk d_)(hu:P.underlying T=sS d_){us:oP}{i:Nat}(h:us[i]?=sS u)(w:World):(part T us.toArray i).run P w=.ok u w:=by
 have ha:BH d_=oK:=by
   match kk,d_,hk with
   |0,.int _,_=>rfl
   |1,.string,_=>rfl
   |2,.bool,_=>rfl
 have:j_ P (part T us.toArray i) w u w:=by
   unfold part;refine(j_.isAgg hu).bind ?_;rw[ha];simp only[bD,if_false];rw[show us.toArray[i]?=sS u from uM h];exact fF _
 exact this
structure Ea (P:Program) (kk:Nat) (kt:TypeId):Prop where
  chk:∀(b:Bool) (d:D) (u:Value) (ph:PH) (w:World),RepD ph d u->DU kk d->j_ P (Instr.checkKey b 10000 kt u) w () w
  find:∀{ph:PH} {ρ:RM} {d:D} {u:Value} {es:List (D × AV)} {ms:List MapEntry} {res:Option (Nat × AV)},RepD ph d u->DU kk d->Y' ph ρ es ms->d? kk d es 0=sS res->
    ∃ _z:Option (Nat × Value),(∀w,j_ P (Instr.findKey kt u ms) w _z w)/\(match res,_z with
      |none,nN=>True
      |some (j,v),sS (j',x)=>j=j'/\(∃e,ms[j]?=sS e/\e.val=x/\∀w,j_ P (Instr.keyThatStays e.key u) w u w)/\g_ ph ρ v x
      |_,_=>False)
def PK(h:vP 3 (.sc (.agg ⟨[.int k a,.string s]⟩)) d=sS t):∃b s',d=.sc (.agg ⟨[.int k b,.string s']⟩)/\t=(decide (a=b)&&decide (s=s')):=by
 unfold vP at h;split at h
 · rename_i h3 _;cases h3
 · rename_i h3 _;cases h3
 · rename_i h3 _;cases h3
 · rename_i k0 b0 s0 k' b s' h3 h0;simp only[D.sc.injEq,Value.agg.injEq,Array.mk.injEq,eQ,Value.int.injEq,Value.string.injEq,and_true]at h0;obtain⟨⟨rfl,rfl⟩,rfl⟩:=h0;split at h
   · rename_i hk;subst hk;simp only[aU]at h;exact⟨b,s',rfl,h.symm⟩
   · cases h
 · cases h
def WB{P:Program}{e:MapEntry}{ms:sU}{i:Nat}{r:Option (Nat × Value)}(h:(Op.equal kt u e.key).run P w=.ok t w)
   (h1:t=tT->r=sS (i,e.val)) (h2:t=oK->j_ P (Instr.findAsking kt u ms (i+1)) w r w):j_ P (Instr.findAsking kt u (e::ms) i) w r w:=by
 unfold Instr.findAsking;apply fG (a:=t) h;cases t with
 |true=>rw[h1 rfl];exact fF _
 |false=>exact h2 rfl
def WC{P:Program}  {fs:Array Field} (hu:P.underlying kt=sS (.struct fs)) (hf:ww P [0,1] 0 fs.toList=tT) (hs:P.stoodInHeld kt=oK)     :
   ∀{es:List (D × AV)} {ms:List MapEntry} {i:Nat} {res:Option (Nat × AV)},Y' ph ρ es ms->d? 3 (.sc (.agg ⟨[.int k a,.string s]⟩)) es i=sS res->
   ∃ _z:Option (Nat × Value),(∀w,j_ P (Instr.findAsking kt (.agg ⟨[.int k a,.string s]⟩) ms i) w _z w)/\(match res,_z with
     |none,nN=>True
     |some (j,v),sS (j',x)=>j=j'/\i<=j/\(∃e,ms[j-i]?=sS e/\e.val=x/\e.key=.agg ⟨[.int k a,.string s]⟩)/\g_ ph ρ v x
     |_,_=>False)
 | [],ms,i,res,rm,h=>by
   simp only[Y']at rm;subst rm;simp only[d?]at h;cases h;exact⟨nN,λw=>fF _,trivial⟩
 |e::es,[],i,res,rm,h=>by simp[Y']at rm
 | e ::es,x::ms,i,res,rm,h=>by
   simp only[Y']at rm;have hq:∀t,vP 3 (.sc (.agg ⟨[.int k a,.string s]⟩)) e.1=sS t->∃k' b s',x.key=.agg ⟨[.int k' b,.string s']⟩/\k=k'/\t=(decide (a=b)&&decide (s=s'))/\∀w,(Op.equal kt (.agg ⟨[.int k a,.string s]⟩) x.key).run P w=.ok t w:=by
     intro t ht;obtain⟨b,s',h1,rfl⟩:=PK ht;have rk:=rm.1.1;rw[h1]at rk;simp only[RepD]at rk
     · refine⟨k,b,s',rk,rfl,rfl,λw=>?_⟩;rw[rk];have hfo:P.fieldsOf kt=fs:=by unfold Program.fieldsOf;rw[hu]
       show(Op.equalIn 10000 kt _ _).run P w=_;rw[run_equalIn_struct w 9999 kt _ _ (by rw[hfo];exact hu) hs,hfo];have two:∃f0 f1,fs.toList=[f0,f1]:=by
         revert hf;generalize fs.toList=l;intro hf
         match l,hf with
         |[f0,f1],_=>exact⟨f0,f1,rfl⟩
         |[],hf=>simp[ww]at hf
         |[f0],hf=>simp[ww]at hf
         |f0::f1::f2::l,hf=>simp[ww]at hf
       let⟨f0,f1,e2⟩:=two;rw[e2]at hf⊢;simp only[ww,aG,ae,bne_iff_ne,Bool.and_true]at hf;let⟨⟨⟨o0,n0⟩,t0⟩,⟨o1,n1⟩,t1⟩:=hf;have u0:∃q,P.underlying f0.type=sS (.int q):=by
         split at t0<;>first|(rename_i q hh;exact⟨q,hh⟩)|simp at t0
       let⟨q,u0⟩:=u0;have u1:P.underlying f1.type=sS .string:=by
         split at t1<;>first|assumption|simp at t1
       have p0:∀(y z:Value),(part f0.type ⟨[y,z]⟩ 0).run P w=.ok y w:=λy z=>Hy (kk:=0) (d_:=.int q) trivial u0 (us:=[y,z]) (by rfl) w;have p1:∀(y z:Value),(part f1.type ⟨[y,z]⟩ 1).run P w=.ok z w:=λy z=>Hy (kk:=1) (d_:=.string) trivial u1 (us:=[y,z]) (by rfl) w;simp only[Op.eqFields,n0,n1,ne_eq,not_false_eq_true,if_true,o0,o1,Sem.run_bind,p0,p1,Result.andThen_ok,Nat.zero_add,run_equalIn_int w 9998 f0.type _ _ _ _ u0,run_equalIn_string w 9998 f1.type _ _ u1];by_cases hab:a=b
       · subst hab;by_cases hst:s=s'
         · subst hst;simp[toList_inj,p1,run_equalIn_string w 9998 f1.type _ _ u1]
         · simp[toList_inj,p1,run_equalIn_string w 9998 f1.type _ _ u1,hst]
       · simp[hab]
   simp only[d?]at h;split at h
   · rename_i h0;let⟨k',b,s',e1,e2,e3,e4⟩:=hq _ h0;cases h;refine⟨sS (i,x.val),λw=>WB (e4 w) (λ_=>rfl) (λhh=>by cases hh),rfl,aJ _,⟨x,oC,rfl,?_⟩,rm.1.2⟩;have e5:a=b/\s=s':=uM e3.symm;rw[e1,<-e2,e5.1,e5.2]
   · rename_i h0;let⟨k',b,s',e1,e2,e3,e4⟩:=hq _ h0;let⟨_z,h1,h2⟩:=WC hu hf hs rm.2 h;refine⟨_z,λw=>WB (e4 w) (λhh=>by cases hh) (λ_=>h1 w),?_⟩
     match res,_z,h2 with
     |none,nN,_=>trivial
     | some (j,v),sS (j',y),⟨g1,g2,⟨e',g3,g4⟩,g5⟩=>
       refine⟨g1,oM,⟨e',?_,g4⟩,g5⟩;rw[show j-i=(j-(i+1))+1 by omega];simpa using g3
   · cases h
def WE{P:Program}  {kk:Nat} (h:Hm P T kk=tT):∃k e,P.underlying T=sS (.map k e)/\Ea P kk k:=by
 have plain:∀{kt:TypeId} {d_:TypeDesc},P.underlying kt=sS d_->wy kk d_->Ea P kk kt:=λhu hkk=>
   ⟨λb d u ph w _ _=>zv0 hkk hu b u w,λ{ph ρ d u es ms res} r _ rm hf=>by
     let⟨_z,f1,f2⟩:=WA hkk r rm hf;refine⟨_z,λw=>zyZ hu f1,?_⟩
     match res,_z,f2 with
     |none,nN,_=>trivial
     |some (j,v),sS (j',x),⟨g1,_,⟨e,g3,g4,g5⟩,g6⟩=>exact⟨g1,⟨e,uM g3,g4,λw=>zHS hkk g5 w⟩,g6⟩⟩
 unfold Hm at h;split at h
 · rename_i k e hu;refine⟨k,e,hu,?_⟩;split at h<;>first|(cases h;done)|skip
   · rename_i hk;simp only[ae]at h;subst h;exact plain hk trivial
   · rename_i hk;simp only[ae]at h;subst h;exact plain hk trivial
   · rename_i hk;simp only[ae]at h;subst h;exact plain hk trivial
   · rename_i fs hk;simp only[aG,ae,bB]at h;obtain⟨⟨rfl,hf⟩,hs⟩:=h;refine⟨λb d u ph w r kf=>?_,λ{ph ρ d u es ms res} r kf rm hm=>?_⟩
     · obtain⟨q,a,s,rfl⟩:=kf;simp only[RepD]at r;subst r;have two:∃f0 f1,fs=#[f0,f1]:=by
         match fs,hf with
         |⟨[f0,f1]⟩,_=>exact⟨f0,f1,rfl⟩
         |⟨[]⟩,hf=>simp[ww]at hf
         |⟨[f0]⟩,hf=>simp[ww]at hf
         |⟨f0::f1::f2::l⟩,hf=>simp[ww]at hf
       obtain⟨f0,f1,rfl⟩:=two;simp only[ww,aG,ae,bne_iff_ne,Bool.and_true]at hf;let⟨⟨⟨o0,n0⟩,t0⟩,⟨o1,n1⟩,t1⟩:=hf;have u0:∃q,P.underlying f0.type=sS (.int q):=by
         split at t0<;>first|(rename_i q hh;exact⟨q,hh⟩)|simp at t0
       let⟨q',u0⟩:=u0;have u1:P.underlying f1.type=sS .string:=by
         split at t1<;>first|assumption|simp at t1
       have c0:(Instr.checkKey b 9999 f0.type (.int q a)).run P w=.ok () w:=by
         unfold Instr.checkKey;exact(fP u0).bind (fF _)
       have c1:(Instr.checkKey b 9999 f1.type (.string s)).run P w=.ok () w:=by
         unfold Instr.checkKey;exact(fP u1).bind (fF _)
       have p0:(part f0.type ⟨[.int q a,.string s]⟩ 0).run P w=.ok (.int q a) w:=Hy (kk:=0) (d_:=.int q') trivial u0 (us:=[.int q a,.string s]) (by rfl) w;have p1:(part f1.type ⟨[.int q a,.string s]⟩ 1).run P w=.ok (.string s) w:=Hy (kk:=1) (d_:=.string) trivial u1 (us:=[.int q a,.string s]) (by rfl) w;unfold Instr.checkKey;refine(fP hk).bind ?_;show Sem.run P _ w=_;simp[n0,n1,o0,o1,p0,p1,c0,c1]
     · obtain⟨q,a,s,rfl⟩:=kf;simp only[RepD]at r;subst r;have key:∀{_z:Option (Nat × Value)} {w:World},j_ P (Instr.findAsking k (.agg ⟨[.int q a,.string s]⟩) ms 0) w _z w->(ms=[]->_z=nN)->j_ P (Instr.findKey k (.agg ⟨[.int q a,.string s]⟩) ms) w _z w:=by
         intro _z w hr hn;unfold Instr.findKey;refine(fP hk).bind ?_;cases ms with
         |nil=>rw[hn rfl];exact fF _
         | cons x ms=>
           have:Instr.findNow (.struct fs) (.agg ⟨[.int q a,.string s]⟩) (x::ms) 0=nN:=by
             simp[Instr.findNow,Instr.sameNow]
           rw[this];exact hr
       let⟨_z,f1,f2⟩:=WC hk hf hs rm hm;have hn:ms=[]->_z=nN:=by
         intro e;subst e
         match res,_z,f2 with
         |none,nN,_=>rfl
         |some (j,v),sS (j',x),⟨_,_,⟨e,g3,_⟩,_⟩=>simp at g3
       refine⟨_z,λw=>key (f1 w) hn,?_⟩
       match res,_z,f2 with
       |none,nN,_=>trivial
       | some (j,v),sS (j',x),⟨g1,_,⟨e,g3,g4,g5⟩,g6⟩=>
         refine⟨g1,⟨e,uM g3,g4,λw=>?_⟩,g6⟩;rw[g5];unfold Instr.keyThatStays;have:Instr.sameBits 10000 (.agg ⟨[.int q a,.string s]⟩) (.agg ⟨[.int q a,.string s]⟩)=tT:=by
           simp[Instr.sameBits,Le]
         rw[aC this];exact fF _
 · cases h
def zFy{r:Option Operand}(ho:o.op=.makeMap T r)(hr:r.isNone=tT)(hn:m n=.c?):gz P o get m [] [(n,.map [])] (.c (.map n)):=by
 refine gz.E? λm' h1 h2 ph ρ w a hr' hg=>?_;have hn':m' n=.c?:=(h2 (n,.map []) oC).trans hn;have hr0:r=nN:=by cases r<;>simp_all
 subst hr0;let⟨H,S⟩:=hr'.pushO (.map #[] 0) hn' 0 (blk:=.map []) oC ⟨[],0,H7 _ _,by simp[Y'],oC,oC⟩;refine⟨_,_,{w with heap:=w.heap.push (.map #[] 0)},.map (sS w.heap.size),?_,S,H,fZ w,?_⟩
 · unfold execOp;rw[ho];refine fG (a:=.map (sS w.heap.size)) ?_ (fF _);show j_ P (Instr.makeMap T nN) w _ _;unfold Instr.makeMap;exact(gD _).bind (fF _)
 · simp only[g_,m_];exact⟨_,zam _ _ _,rfl⟩
def zHT{e:TypeId}{i:TypeInfo}{z:oQ}{zv:Value}(ez:i.zero=sS zv)(hc:zQ z (zeroOf i)=tT)(hag:(match i.zero with|some (.agg _)=>ag|some (.tuple _)=>oK|some _=> !ag|none=>oK)=tT)(ph:PH)(ρ:RM):g_ ph ρ (lI ag z) zv:=by
 have e0:zeroOf i=zv.cells.toList:=by simp[zeroOf,ez]
 let⟨c1,c2⟩:=FU hc;have c3:=c2 ph;rw[e0]at c1 c3;rw[ez]at hag;cases zv with
 | agg cs=>
   simp only at hag;subst hag;simp only[lI,g_];exact⟨cs.toList,oC,by simpa[Value.cells]using c1,gY.of_D (by simpa[Value.cells]using c3)⟩
 |tuple cs=>cases hag
 | _=>
   have:ag=oK:=uM hag;subst this;simp only[Value.cells,List.length_cons,List.length_nil]at c1 c3
   match z,c1 with
   |[d],_=>simp only[lI,List.headD_cons,g_,m_];simp only[RepL]at c3;exact c3.1.2
def PL(ok ag:Bool)(z:oQ):Option (Nat × AV)->AV
 |some (_,v)=>if ok then .a? [v,.c (.d (.bool tT))]else v
 |none=>if ok then .a? [lI ag z,.c (.d (.bool oK))]else lI ag z
def WF(es:oz)(d:D)(v:AV):Option (Nat × AV)->oz
 |some (i,_)=>es.set i (d,v)
 |none=>es++[(d,v)]
def MapAt(get:Nat->AV)(m:Hp)(x:MX)(es:oz)(rd:oO):Prop:=∀m':Hp,(∀b,b∈rd->m' b=m b)->∀(ph:PH) (ρ:RM) (w:World) (u:Value),E_ ph ρ m' w.heap->g_ ph ρ (X get x) u->
 ∃ms:sU,Y' ph ρ es ms/\((u=.map nN/\ms=[])\/∃B ck,u=.map (sS B)/\w.heap[B]?=sS (.map ms.toArray ck))
def WG{b:Nat}{es:oz}(ex:X get x=.c (.map b))(em:m b=.map es):MapAt get m x es [b]:=λm' h1 ph ρ w u hr r1=>by
 rw[ex]at r1;simp only[g_,m_]at r1;let⟨p,hp,e1⟩:=r1;have _Q:=hr.own b p hp;rw[h1 b oC,em]at _Q;let⟨ms,clock,g1,g2,g3,g4⟩:=_Q;exact⟨ms,g2,.inr ⟨_,clock,e1,g1⟩⟩
def WH:∀{ks us:List D} {ms:List MapEntry},lN ms=lN ks->lN ms=lN us->RepL ph ks (ms.map (·.key))->RepL ph us (ms.map (·.val))->Y' ph ρ (pI ks us) ms
 |[],_,[],_,_,_,_=>by simp[pI,Y']
 |[],_,_::_,h,_,_,_=>by simp at h
 |k::ks,[],[],h,_,_,_=>by simp at h
 |k::ks,[],_::_,_,h,_,_=>by simp at h
 |k::ks,u::us,[],h,_,_,_=>by simp at h
 | k::ks,u::us,e::ms,h1,h2,r1,r2=>by
   simp only[List.map_cons,RepL]at r1 r2;simp only[pI,Y',g_,m_];exact⟨⟨r1.1.2,r2.1.2⟩,WH (uM h1) (uM h2) r1.2 r2.2⟩
def WI{ks us:oQ}(ex:X get x=.c (.d (.mp ks us))):MapAt get m x (pI ks us) []:=λm' _ ph ρ w u hr r1=>by
 rw[ex]at r1;simp only[g_,m_,RepD]at r1;let⟨B,ms,ck,e1,e2,e3,e4,e5,e6⟩:=r1;exact⟨ms,WH e3 e4 e5 e6,.inr ⟨B,ck,e1,hr.pers B _ e2⟩⟩
def zFB(ex:X get x=.c (.d (.sc (.map nN)))):MapAt get m x [] []:=λm' _ ph ρ w u hr r1=>by
 rw[ex]at r1;simp only[g_,m_,RepD]at r1;exact⟨[],by simp[Y'],.inl ⟨r1,rfl⟩⟩
def JL{kk:Nat} {ok:Bool} {z:oQ} {k:MX}  {ok':Bool} (ho:o.op=.lookup T ox okk ok') (hc:gu P (.mlook kk ok ag z x k) (.lookup T ox okk ok')=tT) {rd:oO}  {es:oz}
   (ek:tZ kk (X get k)=.c (.d d)) (HM:MapAt get m x es rd) {res:Option (Nat × AV)} (hf:d? kk d es 0=sS res):
   gz P o get m rd [] (PL ok ag z res):=by
 simp only[gu,aG,ae]at hc;obtain⟨⟨⟨⟨rfl,hx⟩,hk⟩,hT⟩,hz⟩:=hc;obtain⟨kt,et,hu,hkk⟩:=WE hT;unfold Vm at hz;rw[hu]at hz;simp only at hz;split at hz
 · rename_i i hi;simp only[aG,ae]at hz;obtain⟨⟨⟨z1,z2⟩,z3⟩,z4⟩:=hz;obtain⟨zv,ez⟩:=bN.1 z1;refine gz.Z_ λm' h1 ph ρ w a hr hg=>?_;have r1:=iV hx (ph:=ph) (ρ:=ρ) (get:=get) (a:=a) λk hk=>hg k (by rw[ho];simp[Op.operands,hk]);have r2:=iV hk (ph:=ph) (ρ:=ρ) (get:=get) (a:=a) λk hk=>hg k (by rw[ho];simp[Op.operands,hk]);have kf:=(Lf ek r2).2
   replace r2:=(Lf ek r2).1
   obtain⟨ms,g2,hM⟩:=HM m' h1 ph ρ w _ hr r1;obtain⟨_z,f1,f2⟩:=hkk.find r2 kf g2 hf;have run:∀(v:Value) (t:Bool),(Option.elim _z (zv,oK) λy=>(y.2,tT))=(v,t)->j_ P (execOp a.eval o) w (.value (if ok then .tuple #[v,.bool t]else v)) w:=by
     intro v t hv;unfold execOp;rw[ho];refine fG (a:=if ok then .tuple #[v,.bool t]else v) ?_ (fF _);show j_ P (Instr.lookup T (a.eval ox) (a.eval okk) ok) w _ w;unfold Instr.lookup
     have tail:∀es:Array MapEntry,es=ms.toArray->j_ P (do
         Instr.checkKey es.isEmpty 10000 kt (a.eval okk)
         let(v,ok')<-match<-Instr.findKey kt (a.eval okk) es.toList with
           |some (_,v)=>pure (v,tT)
           |none=>pure (<-zeroValue et,oK)
         pure (if ok then .tuple #[v,.bool ok']else v)) w (if ok then .tuple #[v,.bool t]else v) w:=by
       intro es hes;subst hes;refine(hkk.chk _ _ _ _ _ r2 kf).bind ?_;refine(show j_ P (Instr.findKey kt _ _) _ _ _ by simpa using f1 _).bind ?_;cases _z with
       | none=>
         simp only[Option.elim,au]at hv;obtain⟨rfl,rfl⟩:=hv;refine(fo hi ez).bind ?_;refine(fF (zv,oK)).bind ?_;exact fF _
       | some y=>
         simp only[Option.elim,au]at hv;obtain⟨rfl,rfl⟩:=hv;refine(fF (y.2,tT)).bind ?_;exact fF _
     refine(fP hu).bind ?_;simp only;rcases hM with⟨e1,e2⟩|⟨B,ck,e1,g1⟩
     · rw[e1];refine(fF (#[]:Array MapEntry)).bind ?_;exact tail _ (by rw[e2])
     · rw[e1];refine(j_.getObj g1 oC).bind ?_;refine(fF ms.toArray).bind ?_;exact tail _ rfl
   clear f1 hf
   match res,_z,f2,run with
   | none,nN,_,run=>
     refine⟨_,run zv oK rfl,?_⟩;simp only[PL];have:=zHT (e:=et) ez z2 z4 ph ρ;cases ok
     · exact this
     · simp only[if_true,g_];exact⟨[zv,.bool oK],rfl,by simp[iC,g_,m_,RepD,this]⟩
   | some (j,v),sS (j',y),⟨q1,q3,q4⟩,run=>
     refine⟨_,run y tT rfl,?_⟩;simp only[PL];cases ok
     · exact q4
     · simp only[if_true,g_];exact⟨[y,.bool tT],rfl,by simp[iC,g_,m_,RepD,q4]⟩
 · cases hz
def Y'.append:∀{es es':List (D × AV)} {ms ms':List MapEntry},Y' ph ρ es ms->Y' ph ρ es' ms'->Y' ph ρ (es++es') (ms++ms')
 |[],_,ms,_,h,h'=>by simp only[Y']at h;subst h;simpa using h'
 |_::_,_,[],_,h,_=>by simp[Y']at h
 | e::es,_,x::ms,_,h,h'=>by
   simp only[Y']at h;simp only[List.cons_append,Y'];exact⟨h.1,Y'.append h.2 h'⟩
def Y'.set{e:D × AV}{x:MapEntry}(hx:RepD ph e.1 x.key/\g_ ph ρ e.2 x.val):∀{es:List (D × AV)} {ms:List MapEntry} (i:Nat),Y' ph ρ es ms->Y' ph ρ (es.set i e) (ms.set i x)
 |[],ms,i,h=>by simp only[Y']at h;subst h;simp[Y']
 |_::_,[],_,h=>by simp[Y']at h
 | f::es,y::ms,0,h=>by
   simp only[Y']at h;simp only[List.set_cons_zero,Y'];exact⟨hx,h.2⟩
 | f::es,y::ms,i+1,h=>by
   simp only[Y']at h;simp only[List.set_cons_succ,Y'];exact⟨h.1,Y'.set hx i h.2⟩
def WJ{b:Nat}{es es':oz}{m':Hp}{p:Nat × Nat}{ms ms':sU}{clock clock':Nat}(hr:E_ ph ρ m' w.heap)(hp:ρ b=sS p)(em:m' b=.map es)(g1:w.heap[p.1]?=sS (.map ms.toArray clock))
   (g2:Y' ph ρ es' ms') (g3:∀e,e∈ms'->e.born<clock') (g4:(ms'.map (·.born)).Nodup):
   E_ ph ρ (upd m' b (.map es')) (w.heap.setIfInBounds p.1 (.map ms'.toArray clock'))/\Step ph ρ m' w.heap ph ρ (upd m' b (.map es')) (w.heap.setIfInBounds p.1 (.map ms'.toArray clock')):=by
 have _D:Real (m' b) p:=by rw[em];trivial
 exact hr.set _ hp _D oC ⟨ms',clock',JF _ _ (hr.J? hp _D),g2,g3,g4⟩
def Lg{kk:Nat} {k v:MX} {ov:Operand} (ho:o.op=.mapUpdate T ox okk ov\/o.op=.insert T ox okk ov) (hx:M_ x ox=tT) (hk:M_ k okk=tT) (hv:M_ v ov=tT) (hT:Hm P T kk=tT) {b:Nat}  {es:oz}
   (ex:X get x=.c (.map b)) (ek:tZ kk (X get k)=.c (.d d)) (em:m b=.map es) {res:Option (Nat × AV)} (hf:d? kk d es 0=sS res):
   gz P o get m [] [(b,.map (WF es d (X get v) res))] (.c (.d .any)):=by
 obtain⟨kt,et,hu,hkk⟩:=WE hT;refine gz.of_skip λm' h1 h2 ph ρ w a hr hg=>?_;have ops:∀k,(ox=.tmp k\/okk=.tmp k\/ov=.tmp k)->Operand.tmp k∈o.op.operands:=by
   intro k hk;rcases ho with ho|ho<;>rw[ho]<;>rcases hk with hk|hk|hk<;>simp[Op.operands,hk]
 have r1:=iV hx (ph:=ph) (ρ:=ρ) (get:=get) (a:=a) λk hk=>hg k (ops k (.inl hk));have r2:=iV hk (ph:=ph) (ρ:=ρ) (get:=get) (a:=a) λk hk=>hg k (ops k (.inr (.inl hk)));have r3:=iV hv (ph:=ph) (ρ:=ρ) (get:=get) (a:=a) λk hk=>hg k (ops k (.inr (.inr hk)));rw[ex]at r1;have kf:=(Lf ek r2).2
 replace r2:=(Lf ek r2).1
 simp only[g_,m_]at r1;obtain⟨p,hp,e1⟩:=r1;have em':m' b=.map es:=(h2 (b,.map (WF es d (X get v) res)) (aK.2 rfl)).trans em;have _Q:=hr.own b p hp;rw[em']at _Q;obtain⟨ms,clock,g1,g2,g3,g4⟩:=_Q;obtain⟨_z,f1,f2⟩:=hkk.find r2 kf g2 hf;have run:∀w',j_ P (Instr.mapUpdate T (a.eval ox) (a.eval okk) (a.eval ov)) w () w'->j_ P (execOp a.eval o) w .skip w':=by
   intro w' h;rcases ho with ho|ho<;>(unfold execOp;rw[ho];exact h.bind (fF _))
 match res,_z,f2,f1 with
 | none, nN,_,f1=>
   obtain⟨H,S⟩:=WJ (es':=es++[(d,X get v)]) (ms':=ms++[{key:=a.eval okk,val:=a.eval ov,born:=clock}]) (clock':=clock+1) hr hp em' g1 (g2.append (by simp only[Y'];exact⟨⟨r2,r3⟩,trivial⟩))
     (by intro e he;rw[aL]at he;rcases he with he|he
         · have:=g3 e he;omega
         · simp at he;subst he;simp)
     (by rw[List.map_append,bK]
         refine⟨g4,oC,?_⟩;intro q hq q' hq' hqq;simp at hq';obtain⟨e,he,rfl⟩:=af.1 hq;have:=g3 e he
         omega)
   refine⟨_,_,{w with heap:=w.heap.setIfInBounds p.1 (.map (ms++[({key:=a.eval okk,val:=a.eval ov,born:=clock}:MapEntry)]).toArray (clock+1))},run _ ?_,S,H,fZ w⟩;unfold Instr.mapUpdate;rw[e1];refine(fP hu).bind ?_;simp only;refine(j_.getObj g1 oC).bind ?_;refine(hkk.chk _ _ _ _ _ r2 kf).bind ?_;refine(show j_ P (Instr.findKey kt _ _) _ _ _ by simpa using f1 _).bind ?_;simp only;have:=j_.setObj (P:=P) (w:=w) (o':=.map (ms.toArray.push {key:=a.eval okk,val:=a.eval ov,born:=clock}) (clock+1)) g1 oC;simpa using this
 | some (j,y),sS (j',z),⟨q1,⟨e,q3,q4,q5⟩,q6⟩,f1=>
   subst q1;have hjl:j<lN ms:=by
     rcases aY j (lN ms) with h|h
     · exact h
     · rw[aR h]at q3;cases q3
   have hget:ms[j]'hjl=e:=by rw[aA hjl]at q3;simpa using q3
   have hmem:e∈ms:=by rw[<-hget];exact aO hjl
   have hborn:(ms.set j {key:=a.eval okk,val:=a.eval ov,born:=e.born}).map (·.born)=ms.map (·.born):=by
     rw[List.map_set];simp only;apply dF;intro q;rw[List.getElem?_set];split
     · rename_i hq;subst hq;split
       · simp[aA hjl,hget]
       · rw[aR oM]
     · rfl
   obtain⟨H,S⟩:=WJ (es':=es.set j (d,X get v)) (ms':=ms.set j {key:=a.eval okk,val:=a.eval ov,born:=e.born}) (clock':=clock) hr hp em' g1 (Y'.set ⟨r2,r3⟩ j g2)
     (by intro e' he;rcases List.mem_or_eq_of_mem_set he with he|he
         · exact g3 e' he
         · subst he;exact g3 e hmem)
     (by rw[hborn];exact g4)
   refine⟨_,_,{w with heap:=w.heap.setIfInBounds p.1 (.map (ms.set j {key:=a.eval okk,val:=a.eval ov,born:=e.born}).toArray clock)},run _ ?_,S,H,fZ w⟩;unfold Instr.mapUpdate;rw[e1];refine(fP hu).bind ?_;simp only;refine(j_.getObj g1 oC).bind ?_;refine(hkk.chk _ _ _ _ _ r2 kf).bind ?_;refine(show j_ P (Instr.findKey kt _ _) _ _ _ by simpa using f1 _).bind ?_;simp only;have hk2:(((ms.toArray[j]?).map (·.key)).getD (a.eval okk))=e.key:=by simp[q3]
   rw[hk2];refine(q5 _).bind ?_;have:=j_.setObj (P:=P) (w:=w) (o':=.map (ms.toArray.modify j λe=>{e with key:=a.eval okk,val:=a.eval ov}) clock) g1 oC;have e2:(ms.toArray.modify j λe=>{e with key:=a.eval okk,val:=a.eval ov})=(ms.set j {key:=a.eval okk,val:=a.eval ov,born:=e.born}).toArray:=by
     apply dV;simp only[Array.toList_modify];apply dF;intro q;rw[List.getElem?_modify,List.getElem?_set];by_cases hq:j=q
     · subst hq;have:ms[j].born=e.born:=by rw[hget]
       simp[q3,hjl,this]
     · simp[hq]
   rw[e2];rw[e2]at this;exact this
def RepL.total(r:RepL ph z vs)(e:lN vs=lN z):∀k,RepE ph (lN z) (List.replicate k z) (List.replicate k vs).flatten
 |0=>by simp[RepE]
 | k +1=>by
   rw[List.replicate_succ,List.replicate_succ,List.flatten_cons];simp only[RepE];refine⟨trivial,?_,?_⟩
   · have:=RepL.mono (fU ph) z vs (List.replicate k vs).flatten r;exact this
   · rw[<-e,List.drop_left];exact RepL.total r e k|>λh=>by rw[e];exact h
def zFC{zs:oP}(h:zs≠[])(k:Nat):(Array.range (k*lN zs)).map (λi=>zs.toArray[i%zs.toArray.size]!)=(List.replicate k zs).flatten.toArray:=by
 have h0:0<lN zs:=by cases zs<;>simp_all
 apply dV;simp only[Array.toList_map,Array.toList_range]
 induction k with
 |zero=>simp
 | succ k ih=>
   rw[List.replicate_succ',List.flatten_append,<-ih,bF,cu,List.range_add,List.map_append];congr 1;simp only[dP,List.flatten_cons,List.flatten_nil,bi];apply dF;intro j;simp only[List.getElem?_map];by_cases hj:j<lN zs
   · rw[List.getElem?_range hj];simp only[Option.map_some,Function.comp];rw[List.size_toArray,Nat.mul_comm,Nat.mul_add_mod,Nat.mod_eq_of_lt hj];simp[aA hj,hj]
   · rw[aR (uM hj),aR oM];rfl
def zt9{z:oQ} {bytes:Nat} (hc:Ox P T z bytes=tT)  (h0:0<=j) (hjl:j<=l) (hl:l*bytes<=70368744177664) (w:World):
   ∃ (zs:oP) (et:TypeId),lN zs=lN z/\(∀ph,RepL ph z zs)/\0<lN z/\0<bytes/\l.toNat<=zaf/\
     j_ P (Instr.makeSlice T (.int .i64 j) (.int .i64 l)) w (.slice (sS ⟨w.heap.size,0,nN⟩) j.toNat l.toNat) {w with heap:=w.heap.push (.cells (List.replicate l.toNat zs).flatten.toArray et)}:=by
 unfold Ox at hc;split at hc
 · rename_i i hi;simp only[aG,ae,aI]at hc;let⟨⟨⟨⟨⟨c1,c2⟩,c3⟩,c4⟩,c5⟩,c6⟩:=hc;unfold BI at hi;split at hi
   · rename_i e hu;let⟨zv,ez⟩:=bN.1 c5;have e0:zeroOf i=zv.cells.toList:=by simp[zeroOf,ez]
     let⟨d1,d2⟩:=FU c6;rw[e0]at d1 d2;have hb1:l*1<=l*(bytes:Int):=Int.mul_le_mul_of_nonneg_left oM oM;have hbw:∀q:Int,0<=q->q<=l->(bytes:Int)*q<=70368744177664:=λq hq hql=>by
       have:(bytes:Int)*q<=bytes*l:=Int.mul_le_mul_of_nonneg_left hql oM;rw[Int.mul_comm (bytes:Int) l]at this;omega
     have hwrap:∀q:Int,0<=q->q<=l->IntKind.i64.wrap q=q:=λq hq hql=>by
       have:q<=70368744177664:=oM;have h1:q%18446744073709551616=q:=Int.emod_eq_of_lt hq oM;have h2:¬(9223372036854775808<=q):=oM;simp[IntKind.wrap,IntKind.bits,IntKind.signed,h1,h2]
     refine⟨zv.cells.toList,e,uM d1,λph=>uM (d2 ph),c4,c3,by unfold zaf;omega,?_⟩;unfold Instr.makeSlice;refine(fP hu).bind ?_;simp only;refine fG (a:=j) (fG (a:=(.i64,j)) (fF _) (fF _)) ?_;refine fG (a:=l) (fG (a:=(.i64,l)) (fF _) (fF _)) ?_;refine(fu hi).bind ?_;rw[hwrap j h0 hjl,hwrap l oM (Int.le_refl _),c2];have hl2:=hbw l oM (Int.le_refl _);rw[aB (by
       simp only[cz,aI,d9,Int.not_lt];refine⟨⟨⟨oM,?_⟩,oM⟩,oM⟩;have:(2:Int)^48=281474976710656:=by decide
       omega)]
     refine(j_.askRoom _).bind ?_;refine(fe hi).bind ?_;rw[c1];have hz1:zv.cells.toList≠[]:=by
       intro h;rw[h]at d1;simp at d1;omega
     have hsz:lN zv.cells.toList=lN z:=uM d1;by_cases hl0:l.toNat*lN z=0
     · rw[aC hl0];refine(fF _).bind ?_;unfold newRow;have hl1:l.toNat=0:=by
         rcases Nat.mul_eq_zero.1 hl0 with h|h
         · exact h
         · omega
       rw[hl1];simp only[bW,List.replicate_zero,List.flatten_nil];rw[show Array.range 0=#[]from rfl,Array.map_empty];exact((gD _).bind (fF (⟨w.heap.size,0,nN⟩:Addr))).bind (fF _)
     · rw[aB hl0];refine(fo hi ez).bind ?_;refine(fF zv.cells).bind ?_;have:=zFC hz1 l.toNat;rw[hsz,bG]at this;rw[this];unfold newRow;exact((gD _).bind (fF _)).bind (fF _)
   · cases hi
 · cases hc
def zzV{zs:oP}(k:Nat):(List.replicate k zs).flatten.length=k*lN zs:=by
 induction k with
 |zero=>simp
 |succ k ih=>rw[List.replicate_succ,List.flatten_cons,aV,ih,bF,cu,dU]
def zFD{z:oQ}{bytes:Nat}{ol oc:Operand}(ho:o.op=.makeSlice T ol oc)(hc:gu P (.mkslM z bytes x y) (.makeSlice T ol oc)=tT)(ex:X get x=.c (.d (.int .i64 j)))(ey:X get y=.c (.d (.int .i64 l)))
   (h0:0<=j) (hjl:j<=l) (hb:l*bytes<=70368744177664) (hn:m n=.c?):
   gz P o get m [] [(n,.arr (lN z) ((List.replicate j.toNat z).map (·.map .d)))] (.c (.x_ (lN z) n 0 j.toNat)):=by
 simp only[gu,aG]at hc;let⟨⟨hx,hx'⟩,hmk⟩:=hc;refine gz.E? λm' h1 h2 ph ρ w a hr hg=>?_;have r1:=iV hx (ph:=ph) (ρ:=ρ) (get:=get) (a:=a) λk hk=>hg k (by rw[ho];simp[Op.operands,hk]);have r2:=iV hx' (ph:=ph) (ρ:=ρ) (get:=get) (a:=a) λk hk=>hg k (by rw[ho];simp[Op.operands,hk]);rw[ex]at r1;rw[ey]at r2;simp only[g_,m_,RepD]at r1 r2;let⟨zs,et,g1,g2,g3,g4,g5,run⟩:=zt9 hmk h0 hjl hb w;have hn':m' n=.c?:=(h2 (n,_) (aK.2 rfl)).trans hn;have e0:=(hr.dom n).1 hn'
 let⟨H,S⟩:=hr.pushO (.cells (List.replicate l.toNat zs).flatten.toArray et) hn' l.toNat (blk:=.arr (lN z) ((List.replicate j.toNat z).map (·.map .d))) oC
   (.inr ⟨(List.replicate l.toNat zs).flatten,et,H7 _ _,by rw[zzV,g1],by simp;omega,by simp;unfold zaf at*;omega,by
     apply gp.of_E;have:=(RepL.total (g2 ph) g1 l.toNat).take j.toNat;rw[List.take_replicate]at this
     rwa[Nat.min_eq_left oM]at this⟩)
 refine⟨_,_,{w with heap:=w.heap.push (.cells (List.replicate l.toNat zs).flatten.toArray et)},.slice (sS ⟨w.heap.size,0,nN⟩) j.toNat l.toNat,?_,S,H,fZ w,?_⟩
 · unfold execOp;rw[ho];refine fG (a:=.slice (sS ⟨w.heap.size,0,nN⟩) j.toNat l.toNat) ?_ (fF _);show j_ P (Instr.makeSlice T (a.eval ol) (a.eval oc)) w _ _;rw[r1.1,r2.1];exact run
 · simp only[g_,m_];exact⟨_,sS ⟨w.heap.size,0,nN⟩,zam _ _ _,oC,by simp;omega,λ_=>by simp,λq hq _=>by cases hq;rfl⟩
def zKJ{kk:Nat}(hk:wy kk d_){a b:D}(ra:RepD ph a u)(rb:RepD ph b v)(h:vP kk a b=sS t)(hu:P.underlying T=sS d_)
   (k:Nat) (w:World):(Op.equalIn (k+1) T u v).run P w=.ok t w:=by
 unfold vP at h;split at h
 · split at h
   · rename_i hkk;cases h;subst hkk;simp only[RepD]at ra rb;obtain⟨rfl,_⟩:=ra;obtain⟨rfl,_⟩:=rb;cases d_<;>first|exact hk.elim|skip
     rw[run_equalIn_int w k T _ _ _ _ hu];congr 1
   · cases h
 · cases h;simp only[RepD]at ra rb;obtain⟨rfl,_⟩:=ra;obtain⟨rfl,_⟩:=rb;cases d_<;>first|exact hk.elim|skip
   rw[run_equalIn_string w k T _ _ hu,toList_inj]
 · cases h;simp only[RepD]at ra rb;subst ra;subst rb;cases d_<;>first|exact hk.elim|skip
   exact run_equalIn_bool' w k T _ _ hu
 · exact hk.elim
 · cases h
def WK {ph:PH} {us vs:List Value} {w:World} {dep:Nat}:∀{ks:List Nat} {fs:List Field} {i:Nat} {a b:List D} {t:Bool},ww P ks i fs=tT->RepL ph a (us.drop i)->RepL ph b (vs.drop i)->CR ks a b=sS t->
   (Op.eqFields (dep+1) us.toArray vs.toArray fs).run P w=.ok t w
 | [],[],i,a,b,t,_,ra,rb,h=>by
   match a,b,h with
   |[],[],h=>simp only[CR,aU]at h;subst h;rfl
 |[],_::_,_,_,_,_,hf,_,_,_=>by simp[ww]at hf
 |_::_,[],_,_,_,_,hf,_,_,_=>by simp[ww]at hf
 |k::ks,f::fs,i,[],b,t,_,ra,rb,h=>by simp[CR]at h
 |k::ks,f::fs,i,_::_,[],t,_,ra,rb,h=>by simp[CR]at h
 | k ::ks,f::fs,i,x::a,y::b,t,hf,ra,rb,h=>by
   simp only[ww,aG,ae,bne_iff_ne]at hf;let⟨⟨⟨h1,h2⟩,h3⟩,h4⟩:=hf;have hk:∃d_,P.underlying f.type=sS d_/\wy k d_:=by
     split at h3<;>first|(cases h3;done)|skip
     all_goals
       rename_i hu;simp only[ae]at h3;subst h3;exact⟨_,hu,trivial⟩
   let⟨d_,hu,hk⟩:=hk;let⟨u,e1,_,e3⟩:=ra.get (j:=0) rfl;let⟨v,f1,_,f3⟩:=rb.get (j:=0) rfl;rw[bE,Nat.add_zero]at e1 f1;have ra':=ra.drop 1;have rb':=rb.drop 1;rw[bX]at ra' rb';simp only[List.drop_succ_cons,List.drop_zero]at ra' rb';simp only[CR]at h;split at h
   · rename_i p q hp hq;cases h;have ih:=WK (w:=w) (dep:=dep) h4 ra' rb' hq;simp only[Op.eqFields,h2,ne_eq,not_false_eq_true,if_true,h1,Sem.run_bind,Hy hk hu e1,Hy hk hu f1,zKJ hk e3 f3 hp hu,Result.andThen_ok];cases p
     · simp
     · simp[ih]
   · cases h
def zHU{ks:oO}(ho:o.op=.binOp op T ox oy U)(hc:gu P (.eqAg ne ks x y) (.binOp op T ox oy U)=tT){a b:oQ}
   {cs cs':o7} (_W:X get x=.ag cs) (hcs':X get y=.ag cs') (ex:A? cs=sS a) (ey:A? cs'=sS b) (h:CR ks a b=sS t):gz P o get m [] [] (.c (.d (.bool (t^^ne)))):=by
 simp only[gu,aG,bB,aI]at hc;let⟨⟨⟨⟨⟨hop,hx⟩,hy⟩,hst⟩,hgd⟩,hfl⟩:=hc;let⟨fs,hu,hfs⟩:=zDv hfl;refine gz.Z_ λm' h1 ph ρ w ac hr hg=>?_;have r1:=iV hx (ph:=ph) (ρ:=ρ) (get:=get) (a:=ac) λk hk=>hg k (by rw[ho];simp[Op.operands,hk]);have r2:=iV hy (ph:=ph) (ρ:=ρ) (get:=get) (a:=ac) λk hk=>hg k (by rw[ho];simp[Op.operands,hk]);let⟨us,c1,c2,c3⟩:=Ov r1 (ds:=a) (by rw[_W];exact ex);let⟨vs,d1,d2,d3⟩:=Ov r2 (ds:=b) (by rw[hcs'];exact ey);rw[_W]at r1;rw[hcs']at r2;simp only[g_]at r1 r2;let⟨_F,e1,_,_⟩:=r1;let⟨vs',f1,_,_⟩:=r2;rw[e1]at c1;rw[f1]at d1;simp only[Value.cells]at c1 d1;have eu:_F=us:=uM c1;have ev:vs'=vs:=uM d1;subst eu;subst ev;have hfo:P.fieldsOf T=fs:=by unfold Program.fieldsOf;rw[hu]
 have _E:(Op.equalIn 10000 T (.agg _F.toArray) (.agg vs'.toArray)).run P w=.ok t w:=by
   rw[run_equalIn_struct w 9999 T _ _ (by rw[hfo];exact hu) hst,hfo];exact WK (dep:=9998) hfs (uM c3) (uM d3) h
 refine⟨.bool (t^^ne),?_,by simp[g_,m_,RepD]⟩;unfold execOp;rw[ho];refine fG (a:=.bool (t^^ne)) ?_ (fF _);show j_ P (do eqGuard op T ox oy (ac.eval ox) (ac.eval oy);binOp op T (ac.eval ox) (ac.eval oy)) w _ w;rw[e1,f1];apply fG (a:=()) (w':=w) (run_eqGuard_agg w op T ox oy _ _ hgd);show(binOp op T _ _).run P w=_;cases ne
 · simp only[bD,if_false]at hop;subst hop;rw[run_eql_struct,_E];simp
 · simp only[if_true]at hop;subst hop;rw[run_neq_struct,_E];simp
def WL{E:TypeId}(hu:P.underlying T=sS (.slice E))(w:World)(a:Option Addr)(l c:Nat):(Op.equal T (.slice a l c) (.slice nN 0 0)).run P w=.ok a.isNone w:=by
 have:j_ P (Op.equal T (.slice a l c) (.slice nN 0 0)) w a.isNone w:=by
   show j_ P (Op.equalIn (9999+1) T (.slice a l c) (.slice nN 0 0)) w a.isNone w;unfold Op.equalIn;refine(fP hu).bind ?_;cases a<;>exact fF _
 exact this
def WN(ho:o.op=.binOp op T ox oy U) (hc:gu P (.isNil ne x) (.binOp op T ox oy U)=tT) {full:Bool} {s:Nat} {es:o5}
   (ex:X get x=.c (.d (.sl full s es))) {v:AV} (hv:(v=.c (.op Hl))\/(es≠[]/\v=.c (.d (.bool ne)))):gz P o get m [] [] v:=by
 simp only[gu,aG,aI]at hc;let⟨⟨⟨hop,hx⟩,hy⟩,ht⟩:=hc;split at hy
 · split at ht
   · rename_i E hu;refine gz.Z_ λm' h1 ph ρ w ac hr hg=>?_;have r1:=iV hx (ph:=ph) (ρ:=ρ) (get:=get) (a:=ac) λk hk=>hg k (by rw[ho];simp[Op.operands,hk]);rw[ex]at r1;simp only[g_,m_,RepD]at r1;let⟨a,cap,e1,e2,e3,e4,e5,e6,e7⟩:=r1;refine⟨.bool (a.isNone^^ne),?_,?_⟩
     · unfold execOp;rw[ho];refine fG (a:=.bool (a.isNone^^ne)) ?_ (fF _);show j_ P (do eqGuard op T ox (.const (.slice nN 0 0)) (ac.eval ox) (.slice nN 0 0);binOp op T (ac.eval ox) (.slice nN 0 0)) w _ w;rw[e1];refine fG (a:=()) (w':=w) ?_ ?_
       · unfold eqGuard;split<;>exact fF _
       · show(binOp op T _ _).run P w=_;have _E:=WL hu w a (lN es) cap;cases ne
         · simp only[bD,if_false]at hop;subst hop;show(do pure (Value.bool (<-Op.equal T (.slice a (lN es) cap) (.slice nN 0 0))):Sem Value).run P w=_;rw[Sem.run_bind,_E];simp
         · simp only[if_true]at hop;subst hop;show(do pure (Value.bool (!(<-Op.equal T (.slice a (lN es) cap) (.slice nN 0 0)))):Sem Value).run P w=_;rw[Sem.run_bind,_E];simp
     · rcases hv with rfl|⟨_A,rfl⟩
       · simp only[g_,m_];exact⟨_,rfl⟩
       · simp only[g_,m_,RepD];cases a with
         |none=>exact(_A (e5 rfl).1).elim
         |some q=>simp
   · cases ht
 · cases hy
def zC7(ho:o.op=.binOp op T ox oy U) (hc:gu P (.isNil ne x) (.binOp op T ox oy U)=tT) {s b off len:Nat}
   (ex:X get x=.c (.x_ s b off len)) (hl:0<len):gz P o get m [] [] (.c (.d (.bool ne))):=by
 simp only[gu,aG,aI]at hc;let⟨⟨⟨hop,hx⟩,hy⟩,ht⟩:=hc;split at hy
 · split at ht
   · rename_i E hu;refine gz.Z_ λm' h1 ph ρ w ac hr hg=>?_;have r1:=iV hx (ph:=ph) (ρ:=ρ) (get:=get) (a:=ac) λk hk=>hg k (by rw[ho];simp[Op.operands,hk]);rw[ex]at r1;simp only[g_,m_]at r1;let⟨p,a,_,e1,e2,e3,_⟩:=r1;obtain⟨q,rfl⟩:∃q,a=sS q:=⟨_,e3 oM⟩
     refine⟨.bool ((sS q).isNone^^ne),?_,?_⟩
     · unfold execOp;rw[ho];refine fG (a:=.bool ((sS q).isNone^^ne)) ?_ (fF _);show j_ P (do eqGuard op T ox (.const (.slice nN 0 0)) (ac.eval ox) (.slice nN 0 0);binOp op T (ac.eval ox) (.slice nN 0 0)) w _ w;rw[e1];refine fG (a:=()) (w':=w) ?_ ?_
       · unfold eqGuard;split<;>exact fF _
       · show(binOp op T _ _).run P w=_;have _E:=WL hu w (sS q) len (p.2-off);cases ne
         · simp only[bD,if_false]at hop;subst hop;show(do pure (Value.bool (<-Op.equal T (.slice (sS q) len (p.2-off)) (.slice nN 0 0))):Sem Value).run P w=_;rw[Sem.run_bind,_E];simp
         · simp only[if_true]at hop;subst hop;show(do pure (Value.bool (!(<-Op.equal T (.slice (sS q) len (p.2-off)) (.slice nN 0 0)))):Sem Value).run P w=_;rw[Sem.run_bind,_E];simp
     · simp[g_,m_,RepD]
   · cases ht
 · cases hy
def zC8{E:TypeId}(hu:P.underlying T=sS (.pointer E))(w:World)(a:Option Addr):(Op.equal T (.pointer a) (.pointer nN)).run P w=.ok a.isNone w:=by
 have:j_ P (Op.equal T (.pointer a) (.pointer nN)) w a.isNone w:=by
   show j_ P (Op.equalIn (9999+1) T (.pointer a) (.pointer nN)) w a.isNone w;unfold Op.equalIn;refine(fP hu).bind ?_;cases a<;>exact fF _
 exact this
def Lh(ho:o.op=.binOp op T ox oy U) (hc:gu P (.isNilP ne x) (.binOp op T ox oy U)=tT)
   {v:AV} (hv:(X get x=.c (.d (.sc (.pointer nN)))/\v=.c (.d (.bool !ne)))\/(((∃cs off,X get x=.c (.d (.rp cs off)))\/(∃b o,X get x=.c (.ptr b o))\/∃s b i o,X get x=.c (.ept s b i o))/\v=.c (.d (.bool ne)))):gz P o get m [] [] v:=by
 simp only[gu,aG,aI]at hc;let⟨⟨⟨hop,hx⟩,hy⟩,ht⟩:=hc;split at hy
 · split at ht
   · rename_i E hu;refine gz.Z_ λm' h1 ph ρ w ac hr hg=>?_;have r1:=iV hx (ph:=ph) (ρ:=ρ) (get:=get) (a:=ac) λk hk=>hg k (by rw[ho];simp[Op.operands,hk]);have key:∃a:Option Addr,ac.eval ox=.pointer a/\g_ ph ρ v (.bool (a.isNone^^ne)):=by
       rcases hv with⟨ex,rfl⟩|⟨⟨cs,off,ex⟩|⟨b,o',ex⟩|⟨s,b,i,o',ex⟩,rfl⟩
       · rw[ex]at r1;simp only[g_,m_,RepD]at r1;exact⟨nN,r1,by simp[g_,m_,RepD]⟩
       · rw[ex]at r1;simp only[g_,m_,RepD]at r1;let⟨B,o',e1,_⟩:=r1;exact⟨_,e1,by simp[g_,m_,RepD]⟩
       · rw[ex]at r1;simp only[g_,m_]at r1;let⟨p,_,e1⟩:=r1;exact⟨_,e1,by simp[g_,m_,RepD]⟩
       · rw[ex]at r1;simp only[g_,m_]at r1;let⟨p,_,e1⟩:=r1;exact⟨_,e1,by simp[g_,m_,RepD]⟩
     let⟨a,e1,e2⟩:=key;refine⟨.bool (a.isNone^^ne),?_,e2⟩;unfold execOp;rw[ho];refine fG (a:=.bool (a.isNone^^ne)) ?_ (fF _);show j_ P (do eqGuard op T ox (.const (.pointer nN)) (ac.eval ox) (.pointer nN);binOp op T (ac.eval ox) (.pointer nN)) w _ w;rw[e1];refine fG (a:=()) (w':=w) ?_ ?_
     · unfold eqGuard;split<;>exact fF _
     · show(binOp op T _ _).run P w=_;have _E:=zC8 hu w a;cases ne
       · simp only[bD,if_false]at hop;subst hop;show(do pure (Value.bool (<-Op.equal T (.pointer a) (.pointer nN))):Sem Value).run P w=_;rw[Sem.run_bind,_E];simp
       · simp only[if_true]at hop;subst hop;show(do pure (Value.bool (!(<-Op.equal T (.pointer a) (.pointer nN)))):Sem Value).run P w=_;rw[Sem.run_bind,_E];simp
   · cases ht
 · cases hy
def WO{b:Int}(r1:g_ ph ρ (.c (.d (.int k a))) u)(r2:g_ ph ρ (.c (.d (.int k b))) v):g_ ph ρ (.c (.d (.int k (zR mx a b)))) (.int k (zR mx a b)):=by
 simp only[g_,m_,RepD]at r1 r2⊢;refine⟨trivial,?_⟩;unfold zR;split<;>split<;>first|exact r1.2|exact r2.2
def zHV{c:Call}(ho:o.op=.call c)(hc:gu P (.minI mx x y) (.call c)=tT){b:Int}(ex:X get x=.c (.d (.int k a)))(ey:X get y=.c (.d (.int k b))):
   gz P o get m [] [] (.c (.d (.int k (zR mx a b)))):=by
 simp only[gu]at hc;split at hc
 · rename_i ox oy hb ha;simp only[aG,bB]at hc;let⟨⟨hm,hx⟩,hy⟩:=hc;have _v:c.args=#[ox,oy]:=by rw[<-bG (xs:=c.args),ha]
   refine gz.Z_ λm' h1 ph ρ w ac hr hg=>?_;have r1:=iV hx (ph:=ph) (ρ:=ρ) (get:=get) (a:=ac) λk hk=>hg k (by rw[ho];simp[Op.operands,Call.operands,hb,_v,hk]);have r2:=iV hy (ph:=ph) (ρ:=ρ) (get:=get) (a:=ac) λk hk=>hg k (by rw[ho];simp[Op.operands,Call.operands,hb,_v,hk]);rw[ex]at r1;rw[ey]at r2;refine⟨.int k (zR mx a b),?_,WO r1 r2⟩;simp only[g_,m_,RepD]at r1 r2;unfold execOp;rw[ho];show j_ P (do let d<-resolve ac.eval c o.type;invoke d.target d.args) w _ w;unfold resolve;rw[hb,_v];refine(fF _).bind ?_;simp only[invoke,List.map_toArray,List.map_cons,List.map_nil];refine fG (a:=.int k (zR mx a b)) ?_ (fF _);rw[r1.1,r2.1,hm];exact fF _
 · rename_i ox oy hb ha;simp only[aG]at hc;let⟨⟨hm,hx⟩,hy⟩:=hc;have _v:c.args=#[ox,oy]:=by rw[<-bG (xs:=c.args),ha]
   refine gz.Z_ λm' h1 ph ρ w ac hr hg=>?_;have r1:=iV hx (ph:=ph) (ρ:=ρ) (get:=get) (a:=ac) λk hk=>hg k (by rw[ho];simp[Op.operands,Call.operands,hb,_v,hk]);have r2:=iV hy (ph:=ph) (ρ:=ρ) (get:=get) (a:=ac) λk hk=>hg k (by rw[ho];simp[Op.operands,Call.operands,hb,_v,hk]);rw[ex]at r1;rw[ey]at r2;refine⟨.int k (zR mx a b),?_,WO r1 r2⟩;simp only[g_,m_,RepD]at r1 r2;unfold execOp;rw[ho];show j_ P (do let d<-resolve ac.eval c o.type;invoke d.target d.args) w _ w;unfold resolve;rw[hb,_v];refine(fF _).bind ?_;simp only[invoke,List.map_toArray,List.map_cons,List.map_nil];refine fG (a:=.int k (zR mx a b)) ?_ (fF _);rw[r1.1,r2.1,hm];exact fF _
 · cases hc
end
end Go.Abs
