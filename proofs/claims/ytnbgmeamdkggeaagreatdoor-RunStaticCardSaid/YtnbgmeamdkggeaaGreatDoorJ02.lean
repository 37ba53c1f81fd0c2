/- Texts of ours, joined and written short by a program of ours. -/
import Derived.Test.YtnbgmeamdkggeaaGreatDoorJ01
import Derived.Laws.StructEq
set_option maxRecDepth 20000
set_option maxHeartbeats 4000000
set_option linter.unusedVariables false
set_option linter.unusedSectionVars false
set_option linter.unusedSimpArgs false
set_option linter.defProp false
set_option linter.unnecessarySimpa false
namespace Go.Abs
variable [jQ]
section
variable {P:Program} {get:Nat->AV} {m:Hp} {n:Nat}
def fe.storeAt{B o:Nat}{us:List Value}{U:TypeId}{w:World}{vs:List Value}(hB:w.heap[B]?=some (.cells us.toArray U (0,0)))(hle:o+vs.length<=us.length)(h1:∀x,x∈vs->x.one1=true):
  fe P (Go.storeCells ⟨B,o,none⟩ vs 0) w () {w with heap:=w.heap.setIfInBounds B (.cells (Abs.splice us o vs).toArray U (0,0))}:=by
 by_cases h0:vs=[]
 ·subst h0;simp only[Abs.splice];have e:w.heap.setIfInBounds B (.cells us.toArray U (0,0))=w.heap:=by
   apply Array.ext_getElem?;intro j;by_cases hj:B=j
   ·subst hj;have hlt:B<w.heap.size:=by
     rcases aX B w.heap.size with h|h
     ·exact h
     ·rw[af h]at hB;cases hB
    rw[cB,aB hlt,hB]
   ·rw[bM hj]
  rw[e];exact dx _
 ·have:=fe.storeCells (P:=P) o vs 0 us w hB (by simpa using hle) h1 h0;simp only[Nat.add_zero]at this;exact this
def gp.grown{ph:PH}{ρ:RM}{s:Nat}{es ys:List (List AC)}{us new:List Value}{len:Nat}(r:gp ph ρ s es us)(hl:len<=es.length)(r':gp ph ρ s ys new)(hn:new.length=ys.length*s)
  (hle:len*s+new.length<=us.length):gp ph ρ s (es.take len++ys) (Abs.splice us (len*s) new):=by
 rw[Gz _ _ _ hle,dI];have h1:=(r.takeEs len).takeAll;have hlen:(es.take len).length=len:=by simp;omega
 rw[hlen]at h1;exact h1.append (by rw[hlen];simp;omega) (r'.more _)
def zeE {o:Oper} {c:Call} {T T':TypeId} {ox oy:Operand} {s bytes:Nat} {x y:MX} (ho:o.op=.call c) (hb:c.callee=.builtin .append) (ha:c.args.toList=[ox,oy]) (hta:c.argTypes.toList=[T,T'])
  (hx:gN x ox=true) (hy:gN y oy=true) (hni:isInt P T'=false) (hsome:(P.underlying T').isSome=true) {i:TypeInfo} (hi:xQ P T=some i) (c1:i.size=s) (c2:i.bytes=bytes) (c3:0<bytes) (c3':bytes<=1073741824) (c4:0<s)
  (hz:i.zero.isSome=true) (hzl:(zeroOf i).length=s) {K:AV->List Nat->List (Nat × Blk)->Prop}
  (hK:match X get x with
  |.c (.msl s' b off len)=>match m b with
   | .arr s'' es=>s=s'/\s=s''/\off=0/\len<=es.length/\m n=.non/\mH get m s (λys rd=>(len+ys.length)*bytes<=70368744177664/\(rd=[]\/rd=[b]\/b∉rd)/\
     K (.c (.msl s n 0 (len+ys.length))) rd [(b,.dead),(n,.arr s (es.take len++ys))]) y
   |_=>False
  |.c (.d (.sl true s' []))=>m n=.non/\mH get m s (λys rd=>ys.length*bytes<=70368744177664/\K (.c (.msl s n 0 ys.length)) rd [(n,.arr s ys)]) y
  |.c (.d (.sl true s' (e::es)))=>s=s'/\m n=.non/\mH get m s (λys rd=>(ys=[]->K (.c (.d (.sl true s (e::es)))) rd [])/\(ys≠[]->((e::es).length+ys.length)*bytes<=70368744177664/\K (.c (.msl s n 0 ((e::es).length+ys.length))) rd [(n,.arr s ((e::es).map (·.map .d)++ys))])) y
  |_=>False):∃v rd wr,gz P o get m rd wr v/\K v rd wr:=by
 obtain⟨d',hu'⟩:=bF.1 hsome;have hnot:∀k,d'≠.int k:=by
  intro k hk;subst hk;simp[isInt,hu']at hni
 obtain⟨et,hu,hei⟩:=DR hi;obtain⟨zv,ez⟩:=bF.1 hz;have e0:zeroOf i=zv.cells.toList:=by simp[zeroOf,ez]
 have hzs:zv.cells.size=s:=by rw[e0]at hzl;simpa using hzl
 have hargs:c.args=#[ox,oy]:=by rw[<-bE (xs:=c.args),ha]
 have htys:c.argTypes=#[T,T']:=by rw[<-bE (xs:=c.argTypes),hta]
 -- the operation's run, out of append's
 have wrap:∀{a:Act} {w w':World} {v:Value},fe P (Builtin.append_ #[T,T'] o.type #[a.eval ox,a.eval oy]) w v w'->fe P (execOp a.eval o) w (.value v) w':=by
  intro a w w' v h;unfold execOp;rw[ho];show fe P (do let d<-resolve a.eval c o.type;invoke d.target d.args) w _ w';unfold resolve;rw[hb,hargs,htys];refine(dx _).bind ?_;simp only[invoke,List.map_toArray,List.map_cons,List.map_nil];exact h.bind (dx _)
 have ops:∀k,(ox=.tmp k\/oy=.tmp k)->Operand.tmp k∈o.op.operands:=by
  intro k hk;rw[ho];simp only[Op.operands,Call.operands,hb,hargs];rcases hk with hk|hk<;>simp[hk]
 have blen:∀{k:Nat},k*bytes<=70368744177664->k<=zao:=λ{k} h=>by
  have:k*1<=k*bytes:=Nat.mul_le_mul_left _ c3;unfold zao;omega
 -- a new block
 have fresh:∀{ph:PH} {ρ:RM} {m':Hp} {w:World} (hr:HRel ph ρ m' w.heap) (hn:m' n=.non) {es ys:List (List AC)} {oldl newl:List Value} {k newCap:Nat} (h1:gp ph ρ s es oldl) (h2:oldl.length=es.length*s)
   (h3:gp ph ρ s ys newl) (h4:newl.length=ys.length*s) (hk:es.length+ys.length=k) (hcap:k<=newCap) (hkl:k<=zao),
   HRel ph (upd ρ n (some (w.heap.size,newCap))) (upd m' n (.arr s (es++ys))) (w.heap.push (.cells (oldl.toArray++newl.toArray++Builtin.zeroCells zv.cells (newCap-k)) et))/\
   Step ph ρ m' w.heap ph (upd ρ n (some (w.heap.size,newCap))) (upd m' n (.arr s (es++ys))) (w.heap.push (.cells (oldl.toArray++newl.toArray++Builtin.zeroCells zv.cells (newCap-k)) et)):=by
  intro ph ρ m' w hr hn es ys oldl newl k newCap h1 h2 h3 h4 hk hcap hkl;refine hr.pushO _ hn newCap (blk:=.arr s (es++ys)) (by simp) (.inr ⟨oldl++newl++(Builtin.zeroCells zv.cells (newCap-k)).toList,et,?_,?_,?_,?_,?_⟩)
  ·rw[Cu];congr 2;apply cu;simp
  ·have hzc:(Builtin.zeroCells zv.cells (newCap-k)).toList.length=(newCap-k)*s:=by simp[Builtin.zeroCells,hzs]
   rw[aR,aR,hzc,h2,h4,<-bD,<-bD];congr 1;omega
  ·simp;omega
  ·simp;omega
  ·have rle:=BO (ρ:=ρ) (p:=(w.heap.size,newCap)) ((hr.dom n).1 hn);have:=(h1.append h2 h3).more (Builtin.zeroCells zv.cells (newCap-k)).toList;exact gp.mono (eZ ph) rle _ _ this
 split at hK
 ·rename_i s' b off len ex;split at hK
  ·rename_i s'' es eb;obtain⟨k1,k2,k3,k4,hn,hK⟩:=hK;subst k1 k2 k3;obtain⟨ys,rd,⟨hbnd,hrd,kk⟩,hsrc⟩:=EW (P:=P) hK;refine⟨_,_,_,gz.of_value λm' h1 h2 ph ρ w a hr hg=>?_,kk⟩;have r1:=jF hx (ph:=ph) (ρ:=ρ) (get:=get) (a:=a) λk hk=>hg k (ops k (.inl hk));have r2:=jF hy (ph:=ph) (ρ:=ρ) (get:=get) (a:=a) λk hk=>hg k (ops k (.inr hk));have eb':m' b=.arr s es:=(h2 (b,.dead) (by simp)).trans eb;have hn':m' n=.non:=(h2 (n,.arr s (es.take len++ys)) (by simp)).trans hn;have hnb:n≠b:=λhh=>by subst hh;rw[eb']at hn';cases hn'
   obtain⟨new,s1,s2,s3,s4⟩:=hsrc (λb' hb'=>h1 b' hb') hr r2;rw[ex]at r1;simp only[RepV,RepC]at r1;obtain⟨p,base,p1,p2,p3,p4,p5⟩:=r1;have hone:=gp.one s4 s3;simp only[Nat.zero_add]at p3;simp only[dP]at p2;have how:=hr.own b p p1;rw[eb']at how;have hl:=blen hbnd;by_cases hin:len+ys.length<=p.2
   ·-- there is room
    by_cases hp0:p.2=0
    ·have hlen0:len=0:=by omega
     have hys:ys=[]:=aa.1 (by omega);subst hlen0 hys;have hnew:new=[]:=aa.1 (by simpa using s3);subst hnew;obtain⟨K1,S1⟩:=hr.kill (b:=b) (by rw[eb'];simp);obtain⟨K2,S2⟩:=K1.none (b:=n) (by rw[zah _ _ hnb];exact hn') s;refine⟨ph,_,w,.slice base 0 p.2,wrap ?_,S1.trans S2,K2,fC w,?_⟩
     ·rw[p2]
      have:=HZ (P:=P) (T:=T) (T':=T') (ty:=o.type) (i:=i) (base:=base) (sLen:=0) (sCap:=p.2) (k:=0) (x:=a.eval oy) (w:=w) (w':=w) (new:=#[]) hu hei hu' hnot s1 (by omega) (by rw[c1];exact s2 w rfl)
       (λq hq=>by simp only[bR];exact dx _) (λ_=>rfl)
      simpa using this
     ·simp only[RepV,RepC];refine⟨(0,0),base,zae _ _ _,by simp[hp0],by simp,λh=>by simp at h,λq hq h=>by simp at h⟩
    ·have hreal:Real (m' b) p:=by rw[eb'];show 0<p.2;omega
     have hbase:=p4 (by omega);subst hbase;rcases how with⟨q1,q2⟩|⟨us,U,g1,g2,g3,g5,g4⟩
     ·omega
     have hm3:(len+ys.length)*s<=p.2*s:=bL s hin;have e2:(len+ys.length)*s=len*s+ys.length*s:=bD ..;have hle:len*s+new.length<=us.length:=by omega
     have hrep:zaj ph (upd ρ n (some p)) p (.arr s (es.take len++ys)) (w.heap.setIfInBounds p.1 (.cells (Abs.splice us (len*s) new).toArray U (0,0))):=by
      refine .inr ⟨_,U,Cw _ _ (hr.real_lt p1 hreal),by rw[zG];exact g2,by simp;omega,by simp;omega,?_⟩;exact gp.mono (eZ ph) (BO ((hr.dom n).1 hn')) _ _ (gp.grown g4 k4 s4 s3 hle)
     obtain⟨K1,S1⟩:=hr.move (.cells (Abs.splice us (len*s) new).toArray U (0,0)) p1 hreal hn' (blk:=.arr s (es.take len++ys)) (by simp) hrep;refine⟨ph,_,{w with heap:=w.heap.setIfInBounds p.1 (.cells (Abs.splice us (len*s) new).toArray U (0,0))},.slice (some ⟨p.1,0,none⟩) (len+ys.length) p.2,wrap ?_,S1,K1,fC w,?_⟩
     ·rw[p2];simp only[bR]at*
      refine HZ (i:=i) (new:=new.toArray) hu hei hu' hnot s1 hin (by rw[c1];exact s2 w rfl) (λq hq=>?_) (λh=>by cases h);cases hq;rw[addr_add,c1];simp only[Nat.zero_add];exact fe.storeAt g1 (by simpa using hle) hone
     ·simp only[RepV,RepC];exact⟨p,some ⟨p.1,0,none⟩,zae _ _ _,by simp,by simpa using hin,λ_=>by simp,λq hq _=>by cases hq;rfl⟩
   ·-- a new row
    obtain⟨K0,S0⟩:=hr.kill (b:=b) (by rw[eb'];simp);have hold:∃oldl:List Value,fe P (Builtin.firstCells s len (.slice base len p.2)) (World.drew1 w) oldl.toArray (World.drew1 w)/\oldl.length=len*s/\gp ph ρ s (es.take len) oldl:=by
     rcases how with⟨q1,q2⟩|⟨us,U,g1,g2,g3,g5,g4⟩
     ·have:len=0:=by omega
      subst this;refine⟨[],?_,by simp,by simp[gp]⟩;cases base with
      |none=>exact rfl
      |some q=>simp only[Builtin.firstCells,bR];exact rfl
     ·have hm3:len*s<=p.2*s:=bL s p3;have hlen:(es.take len).length=len:=by simp;omega
      refine⟨us.take (len*s),?_,by simp;omega,by have:=(g4.takeEs len).takeAll;rwa[hlen]at this⟩;by_cases hp0:0<p.2
      ·have hbase:=p4 hp0;subst hbase;simp only[Builtin.firstCells,bR];have hl2:(us.take (len*s)).length=len*s:=by simp;omega
       have:=fG (P:=P) (w:=World.drew1 w) (B:=p.1) (o:=0) (vs:=us.take (len*s)) (λj u hj=>by
        have hj':=DL hj;rw[cell_of (show(World.drew1 w).heap[p.1]?=_ from g1)]
        simpa using hj')
       rw[hl2]at this;exact this
      ·have:len=0:=by omega
       subst this;simp only[bR,List.take_zero];cases base with
       |none=>exact rfl
       |some q=>simp only[Builtin.firstCells,bR];exact rfl
    obtain⟨oldl,o1,o2,o3⟩:=hold
    obtain⟨newCap,hcap,hrun⟩:=KO (P:=P) (T:=T) (T':=T') (ty:=o.type) (i:=i) (base:=base) (sLen:=len) (sCap:=p.2) (k:=ys.length) (x:=a.eval oy) (w:=w) (old:=oldl.toArray) (new:=new.toArray) hu hei ez hu' hnot s1
     (by omega) (by rw[c2];exact hbnd) (by omega) (by omega) (by rw[c1];exact o1) (by rw[c1];exact s2 _ rfl)
    have hlen:(es.take len).length=len:=by simp;omega
    obtain⟨K1,S1⟩:=fresh (w:=w) K0 (by rw[zah _ _ hnb];exact hn') (k:=len+ys.length) (newCap:=newCap) o3 (by rw[hlen];exact o2) s4 s3 (by rw[hlen]) hcap hl;refine⟨ph,_,{World.drew1 w with heap:=w.heap.push (.cells (oldl.toArray++new.toArray++Builtin.zeroCells zv.cells (newCap-(len+ys.length))) et)},_,wrap (by rw[p2];exact hrun),S0.trans S1,K1,⟨rfl,rfl,rfl⟩,?_⟩;simp only[RepV,RepC];exact⟨_,some ⟨w.heap.size,0,none⟩,zae _ _ _,by simp,by simpa using hcap,λ_=>by simp,λq hq _=>by cases hq;rfl⟩
  ·exact hK.elim
 ·rename_i s' ex;obtain⟨hn,hK⟩:=hK;obtain⟨ys,rd,⟨hbnd,kk⟩,hsrc⟩:=EW (P:=P) hK;refine⟨_,_,_,gz.of_value λm' h1 h2 ph ρ w a hr hg=>?_,kk⟩;have r1:=jF hx (ph:=ph) (ρ:=ρ) (get:=get) (a:=a) λk hk=>hg k (ops k (.inl hk));have r2:=jF hy (ph:=ph) (ρ:=ρ) (get:=get) (a:=a) λk hk=>hg k (ops k (.inr hk));have hn':m' n=.non:=(h2 (n,.arr s ys) (by simp)).trans hn;obtain⟨new,s1,s2,s3,s4⟩:=hsrc (λb' hb'=>h1 b' hb') hr r2;rw[ex]at r1;simp only[RepV,RepC,RepD]at r1;obtain⟨base,cap,p1,p2,p3,p4,p5,p6,p7⟩:=r1;have hcap0:cap=0:=by simpa using p3
  subst hcap0;simp only[List.length_nil]at p1;by_cases hys:ys.length=0
  ·have hys':ys=[]:=aa.1 hys;subst hys';have hnew:new=[]:=aa.1 (by simpa using s3);subst hnew;obtain⟨K2,S2⟩:=hr.none (b:=n) hn' s;refine⟨ph,_,w,.slice base 0 0,wrap ?_,S2,K2,fC w,?_⟩
   ·rw[p1]
    have:=HZ (P:=P) (T:=T) (T':=T') (ty:=o.type) (i:=i) (base:=base) (sLen:=0) (sCap:=0) (k:=0) (x:=a.eval oy) (w:=w) (w':=w) (new:=#[]) hu hei hu' hnot s1 (by omega) (by rw[c1];exact s2 w rfl)
     (λq hq=>by simp only[bR];exact dx _) (λ_=>rfl)
    simpa using this
   ·simp only[RepV,RepC];exact⟨(0,0),base,zae _ _ _,by simp,by simp,λh=>by simp at h,λq hq h=>by simp at h⟩
  ·obtain⟨newCap,hcap,hrun⟩:=KO (P:=P) (T:=T) (T':=T') (ty:=o.type) (i:=i) (base:=base) (sLen:=0) (sCap:=0) (k:=ys.length) (x:=a.eval oy) (w:=w) (old:=#[]) (new:=new.toArray) hu hei ez hu' hnot s1
    (by omega) (by rw[c2];simpa using hbnd) (by omega) (by omega)
    (by
     cases base with
     |none=>exact rfl
     |some q=>simp only[Builtin.firstCells,bR];exact rfl) (by rw[c1];exact s2 _ rfl)
   obtain⟨K1,S1⟩:=fresh (w:=w) hr hn' (es:=[]) (oldl:=[]) (k:=ys.length) (newCap:=newCap) (by simp[gp]) (by simp) s4 s3 (by simp) (by omega) (blen hbnd);simp only[List.nil_append,Nat.zero_add]at K1 S1 hrun;refine⟨ph,_,{World.drew1 w with heap:=w.heap.push (.cells ((#[]:Array Value)++new.toArray++Builtin.zeroCells zv.cells (newCap-ys.length)) et)},_,wrap (by rw[p1];exact hrun),S1,K1,⟨rfl,rfl,rfl⟩,?_⟩;simp only[RepV,RepC];exact⟨_,some ⟨w.heap.size,0,none⟩,zae _ _ _,by simp,by simp;omega,λ_=>by simp,λq hq _=>by cases hq;rfl⟩
 ·rename_i s' e es ex;obtain⟨k1,hn,hK⟩:=hK;subst k1;obtain⟨ys,rd,⟨hemp,hfull⟩,hsrc⟩:=EW (P:=P) hK;by_cases hye:ys=[]
  ·have kk:=hemp hye;subst hye;refine⟨_,_,_,gz.of_value λm' h1 h2 ph ρ w a hr hg=>?_,kk⟩;have r1:=jF hx (ph:=ph) (ρ:=ρ) (get:=get) (a:=a) λk hk=>hg k (ops k (.inl hk));have r2:=jF hy (ph:=ph) (ρ:=ρ) (get:=get) (a:=a) λk hk=>hg k (ops k (.inr hk));obtain⟨new,s1,s2,s3,s4⟩:=hsrc (λb' hb'=>h1 b' hb') hr r2;have hnew:new=[]:=aa.1 (by simpa using s3);subst hnew;rw[ex]at r1;have r1':=r1;simp only[RepV,RepC,RepD]at r1;obtain⟨base,cap,p1,p2,p3,p4,p5,p6,p7⟩:=r1;have hcap0:cap=(e::es).length:=p3 trivial;refine⟨ph,ρ,w,a.eval ox,wrap ?_,Step.refl _ _ _ _,hr,fC w,r1'⟩;rw[p1]
   have:=HZ (P:=P) (T:=T) (T':=T') (ty:=o.type) (i:=i) (base:=base) (sLen:=(e::es).length) (sCap:=cap) (k:=0) (x:=a.eval oy) (w:=w) (w':=w) (new:=#[]) hu hei hu' hnot s1 (by omega) (by rw[c1];exact s2 w rfl)
    (λq hq=>dx _) (λ_=>rfl)
   simpa using this
  obtain⟨hbnd,kk⟩:=hfull hye;have hne:=hye;generalize hes:e::es=l at ex hbnd kk;refine⟨_,_,_,gz.of_value λm' h1 h2 ph ρ w a hr hg=>?_,kk⟩;have r1:=jF hx (ph:=ph) (ρ:=ρ) (get:=get) (a:=a) λk hk=>hg k (ops k (.inl hk));have r2:=jF hy (ph:=ph) (ρ:=ρ) (get:=get) (a:=a) λk hk=>hg k (ops k (.inr hk));have hn':m' n=.non:=(h2 (n,.arr s (l.map (·.map .d)++ys)) (by simp)).trans hn;obtain⟨new,s1,s2,s3,s4⟩:=hsrc (λb' hb'=>h1 b' hb') hr r2;rw[ex]at r1;simp only[RepV,RepC,RepD]at r1;obtain⟨base,cap,p1,p2,p3,p4,p5,p6,p7⟩:=r1;have hcap0:cap=l.length:=p3 trivial;subst hcap0;have hl0:0<l.length:=by rw[<-hes];simp
  have hys:0<ys.length:=by cases ys<;>simp_all
  have htot:=p7.total;have hold:∃oldl:List Value,fe P (Builtin.firstCells s l.length (.slice base l.length l.length)) (World.drew1 w) oldl.toArray (World.drew1 w)/\oldl.length=l.length*s/\gp ph ρ s (l.map (·.map .d)) oldl:=by
   refine⟨(cellsAt ph base).take (l.length*s),?_,by simp;omega,?_⟩
   ·cases base with
    |none=>have:=(p5 rfl).1;rw[this]at hl0;simp at hl0
    | some q=>
     obtain⟨B,off,spot⟩:=q;have:=p6 _ rfl hl0;simp only at this;subst this;simp only[Builtin.firstCells];have hlen:((cellsAt ph (some ⟨B,off,none⟩)).take (l.length*s)).length=l.length*s:=by simp;omega
     have:=fG (P:=P) (w:=World.drew1 w) (B:=B) (o:=off) (vs:=(cellsAt ph (some ⟨B,off,none⟩)).take (l.length*s)) (λj u hj=>by
      have hj':=DL hj;simp only[cellsAt,bG]at hj';unfold hcells at hj';cases hB:ph B with
      |none=>rw[hB]at hj';simp at hj'
      | some ob=>
       rw[hB]at hj';cases ob with
       |cells c T' fr=>
        rw[cell_of (show(World.drew1 w).heap[B]?=_ from hr.pers B _ hB)];simpa using hj'
       |_=>simp at hj')
     rw[hlen]at this;exact this
   ·have r8:=gp.of_E (ρ:=ρ) p7;have:=r8.takeAll;rwa[ah]at this
  obtain⟨oldl,o1,o2,o3⟩:=hold
  obtain⟨newCap,hcap,hrun⟩:=KO (P:=P) (T:=T) (T':=T') (ty:=o.type) (i:=i) (base:=base) (sLen:=l.length) (sCap:=l.length) (k:=ys.length) (x:=a.eval oy) (w:=w) (old:=oldl.toArray) (new:=new.toArray) hu hei ez hu' hnot s1
   (by omega) (by rw[c2];exact hbnd) (by omega) (by omega) (by rw[c1];exact o1) (by rw[c1];exact s2 _ rfl)
  obtain⟨K1,S1⟩:=fresh (w:=w) hr hn' (es:=l.map (·.map .d)) (k:=l.length+ys.length) (newCap:=newCap) o3 (by simpa using o2) s4 s3 (by simp) hcap (blen hbnd);refine⟨ph,_,{World.drew1 w with heap:=w.heap.push (.cells (oldl.toArray++new.toArray++Builtin.zeroCells zv.cells (newCap-(l.length+ys.length))) et)},_,wrap (by rw[p1];exact hrun),S1,K1,⟨rfl,rfl,rfl⟩,?_⟩;simp only[RepV,RepC];exact⟨_,some ⟨w.heap.size,0,none⟩,zae _ _ _,by simp,by simp;omega,λ_=>by simp,λq hq _=>by cases hq;rfl⟩
 ·exact hK.elim
end
end Go.Abs
namespace Go.Abs
variable [jQ]
section
variable {P:Program} {get:Nat->AV} {m:Hp} {n:Nat}
def H8{o:Oper}{c:Call}{ox:Operand}{T:TypeId}(ho:o.op=.call c)(hb:c.callee=.builtin .len)(hargs:c.args=#[ox])(htys:c.argTypes=#[T]){k:Nat}{ph:PH}{ρ:RM}{w:World}{a:Act}(hk:k<=zao)
  (hr:fe P (Builtin.len_ #[T] o.type #[a.eval ox]) w (goInt k) w):∃vC,fe P (execOp a.eval o) w (.value vC) w/\RepV ph ρ (.c (.d (.int .i64 k))) vC:=by
 refine⟨goInt k,?_,?_⟩
 ·unfold execOp;rw[ho];show fe P (do let d<-resolve a.eval c o.type;invoke d.target d.args) w _ w;unfold resolve;rw[hb,hargs,htys];refine(dx _).bind ?_;simp only[invoke,List.map_toArray,List.map_cons,List.map_nil];exact hr.bind (dx _)
 ·simp only[RepV,RepC];unfold RepD;unfold zao at hk;refine⟨rfl,?_,?_⟩
  ·simp only[IntKind.min,IntKind.signed,IntKind.bits];simp
  ·simp only[IntKind.max,IntKind.signed,IntKind.bits];simp;omega
def zfS{o:Oper}{c:Call}{x:MX}(ho:o.op=.call c)(hc:gY P (.len x) (.call c)=true){K:AV->List Nat->Prop}
  (hK:match X get x with
  |.c (.d (.sl _ _ es))=>K (.c (.d (.int .i64 es.length))) []
  |.c (.msl _ b off l)=>match m b with
   |.arr _ es=>off+l<=es.length/\K (.c (.d (.int .i64 l))) [b]
   |_=>False
  |.c (.d (.sc (.slice (some _) l _)))=>l<=zao/\K (.c (.d (.int .i64 l))) []
  |_=>False):∃v rd,gz P o get m rd [] v/\K v rd:=by
 simp only[gY]at hc;split at hc
 ·rename_i ox T hb ha hta;simp only[aC]at hc;obtain⟨hx,ht⟩:=hc;have hargs:c.args=#[ox]:=by rw[<-bE (xs:=c.args),ha]
  have htys:c.argTypes=#[T]:=by rw[<-bE (xs:=c.argTypes),hta]
  have hop:∀k,ox=.tmp k->Operand.tmp k∈o.op.operands:=by
   intro k hk;rw[ho];simp[Op.operands,Call.operands,hb,hargs,hk]
  split at ht
  ·rename_i e hu;have sl:∀{w:World} {a:Option Addr} {l cp:Nat},fe P (Builtin.len_ #[T] o.type #[.slice a l cp]) w (goInt l) w:=by
    intro w a l cp;unfold Builtin.len_;refine(eT hu).bind ?_;exact dx _
   split at hK
   ·rename_i fl s es ex;refine⟨_,[],gz.of_pure λm' h1 ph ρ w a hr hg=>?_,hK⟩;have r1:=jF hx (ph:=ph) (ρ:=ρ) (get:=get) (a:=a) λk hk=>hg k (hop k hk);rw[ex]at r1;simp only[RepV,RepC,RepD]at r1;obtain⟨b,cap,e1,e2,e3,e4,_⟩:=r1;refine H8 ho hb hargs htys e4 ?_;rw[e1];exact sl
   ·rename_i s b off l ex;split at hK
    ·rename_i s' es eb;obtain⟨k1,hK⟩:=hK;refine⟨_,[b],gz.of_pure λm' h1 ph ρ w a hr hg=>?_,hK⟩;have r1:=jF hx (ph:=ph) (ρ:=ρ) (get:=get) (a:=a) λk hk=>hg k (hop k hk);rw[ex]at r1;simp only[RepV,RepC]at r1;obtain⟨p,q,e0,e1,e2⟩:=r1;have how:=hr.own b p e0;rw[h1 b (by simp),eb]at how;have hlm:l<=zao:=by
      rcases how with⟨_,h0⟩|⟨us,U,g1,g2,g3,g5,g4⟩
      ·rw[h0]at k1;simp at k1;unfold zao;omega
      ·omega
     refine H8 ho hb hargs htys hlm ?_;rw[e1];exact sl
    ·exact hK.elim
   ·rename_i q l cp ex;obtain⟨k1,hK⟩:=hK;refine⟨_,[],gz.of_pure λm' h1 ph ρ w a hr hg=>?_,hK⟩;have r1:=jF hx (ph:=ph) (ρ:=ρ) (get:=get) (a:=a) λk hk=>hg k (hop k hk);rw[ex]at r1;simp only[RepV,RepC,RepD]at r1;refine H8 ho hb hargs htys k1 ?_;rw[r1];exact sl
   ·exact hK.elim
  ·cases ht
 ·cases hc
def zfq{o:Oper}{c:Call}{x:MX}(ho:o.op=.call c)(hc:gY P (.lenS x) (.call c)=true){t:di}(ex:X get x=.c (.d (.str t))):gz P o get m [] [] (.c (.d (.int .i64 t.size))):=by
 simp only[gY]at hc;split at hc
 ·rename_i ox T hb ha hta;simp only[aC]at hc;obtain⟨hx,ht⟩:=hc;have hargs:c.args=#[ox]:=by rw[<-bE (xs:=c.args),ha]
  have htys:c.argTypes=#[T]:=by rw[<-bE (xs:=c.argTypes),hta]
  have hop:∀k,ox=.tmp k->Operand.tmp k∈o.op.operands:=by
   intro k hk;rw[ho];simp[Op.operands,Call.operands,hb,hargs,hk]
  split at ht
  ·rename_i hu;refine gz.of_pure λm' h1 ph ρ w a hr hg=>?_;have r1:=jF hx (ph:=ph) (ρ:=ρ) (get:=get) (a:=a) λk hk=>hg k (hop k hk);rw[ex]at r1;simp only[RepV,RepC,RepD]at r1;refine H8 ho hb hargs htys r1.2 ?_;rw[r1.1];unfold Builtin.len_;refine(eT hu).bind ?_;exact dx _
  ·cases ht
 ·cases hc
def H9{o:Oper}{x:MX}{ox:Operand}(ho:o.op=.nilCheck ox)(hx:gN x ox=true)(hp:∀{ph:PH} {ρ:RM} {v:Value},RepV ph ρ (X get x) v->∃q,v=.pointer (some q)):gz P o get m [] [] (X get x):=by
 refine gz.of_pure λm' h1 ph ρ w a hr hg=>⟨a.eval ox,?_,?_⟩
 ·have r1:=jF hx (ph:=ph) (ρ:=ρ) (get:=get) (a:=a) λk hk=>hg k (by rw[ho];simp[Op.operands,hk]);obtain⟨q,e⟩:=hp r1;unfold execOp;rw[ho];simp only[e];exact dx _
 ·exact jF hx λk hk=>hg k (by rw[ho];simp[Op.operands,hk])
def zad.nth{h:PH}{ρ:RM}:∀{xs:List AV} {vs:List Value} {j:Nat} {x:AV},zad h ρ xs vs->xs[j]?=some x->∃v,vs[j]?=some v/\RepV h ρ x v
|[],_,j,x,_,e=>by simp at e
|_::_,[],_,_,r,_=>by simp[zad]at r
|d::ds,v::vs,0,x,r,e=>by
 simp only[zad]at r;simp at e;subst e;exact⟨v,by simp,r.1⟩
|d::ds,v::vs,j+1,x,r,e=>by
 simp only[zad]at r;simp only[List.getElem?_cons_succ]at e⊢;exact zad.nth r.2 e
def zd9{o:Oper}{x:MX}{ox:Operand}{i:Nat}{vs:List AV}{v:AV}(ho:o.op=.extract ox i)(hx:gN x ox=true)(ex:X get x=.tup vs)(ev:vs[i]?=some v):gz P o get m [] [] v:=by
 refine gz.of_pure λm' h1 ph ρ w a hr hg=>?_;have r1:=jF hx (ph:=ph) (ρ:=ρ) (get:=get) (a:=a) λk hk=>hg k (by rw[ho];simp[Op.operands,hk]);rw[ex]at r1;simp only[RepV]at r1;obtain⟨us,e1,e2⟩:=r1;obtain⟨u,e3,e4⟩:=e2.nth ev;refine⟨u,?_,e4⟩;unfold execOp;rw[ho];refine dz ?_ (dx _);show fe P (Instr.extract (a.eval ox) i) w u w;rw[e1];unfold Instr.extract;simp only[List.getElem?_toArray,e3];exact dx _
def DT{get:Nat->AV}{d:Nat}{K:Nat->Prop}{x:Option MX}{ox:Option Operand}(h:bnd get d K x)(hc:yS x ox=true):∃j,K j/\(ox=none->j=d)/\
  ∀{ph:PH} {ρ:RM} {a:Act},(∀k,ox=some (.tmp k)->RepV ph ρ (get k) (a.tmps.getD k undef))->∀y,ox=some y->∃k,a.eval y=.int k j:=by
 unfold bnd at h;split at h
 ·cases ox with
  |none=>exact⟨d,h,λ_=>rfl,λ_ y hy=>by cases hy⟩
  |some _=>simp[yS]at hc
 ·rename_i x;cases ox with
  |none=>simp[yS]at hc
  | some y=>
   simp only[yS]at hc;split at h
   ·rename_i k j ex;obtain⟨h1,h2⟩:=h;refine⟨j.toNat,h2,λhh=>(by cases hh),λ{ph ρ a} hg y' hy'=>?_⟩;cases hy';have r1:=jF hc (ph:=ph) (ρ:=ρ) (get:=get) (a:=a) λk hk=>hg k (by rw[hk]);rw[ex]at r1;simp only[RepV,RepC,RepD]at r1;exact⟨k,by rw[r1.1];congr 1;omega⟩
   ·exact h.elim
def Qa{x:Value}{k:IntKind}{j y:Nat}{code:BoundsCode}{w:World}(e:x=.int k j)(h:j<=y):fe P (Instr.sliceBound x y code) w j w:=by
 rw[e];unfold Instr.sliceBound;refine(dx (k,(j:Int))).bind ?_;dsimp only;rw[aB (by omega)];have:((j:Int)).toNat=j:=by simp
 rw[this];exact dx _
def Qb{isSlice:Bool}{len cap:Nat}{low high:Option Value}{l h:Nat}{w:World}(hl:∀x,low=some x->∃k,x=.int k l)(hl0:low=none->l=0)(hh:∀x,high=some x->∃k,x=.int k h)(hh0:high=none->h=len)
  (h1:l<=h) (h2:h<=cap):fe P (Instr.sliceBounds isSlice len cap low high none) w (l,h,cap) w:=by
 unfold Instr.sliceBounds;refine(dx cap).bind ?_;dsimp only
 have e2:∀(K:Nat->Sem (Nat × Nat × Nat)),(∀v,K v=Pure.pure (v,h,cap))->fe P (match low with
   |some v=>do
    let l<-Instr.sliceBound v h (if(none:Option Value).isSome=true then .slice3C else .sliceB)
    K l
   |none=>do
    let l<-Pure.pure 0
    K l) w (l,h,cap) w:=by
  intro K hK;cases low with
  |none=>
   have:=hl0 rfl;subst this;refine(dx 0).bind ?_;rw[hK];exact dx _
  |some v=>
   obtain⟨k,e⟩:=hl v rfl;refine(Qa e h1).bind ?_;rw[hK];exact dx _
 cases high with
 |none=>
  have:=hh0 rfl;subst this;refine(dx _).bind ?_;exact e2 _ λ_=>rfl
 |some v=>
  obtain⟨k,e⟩:=hh v rfl;refine(Qa e h2).bind ?_;exact e2 _ λ_=>rfl
def EX{α β:Type}{x:Option α}{f:α->β}(h:x.map f=none):x=none:=by cases x<;>simp_all
def zeC{x:Option MX}{o:Option Operand}(h:yS x o=true):x.isNone=o.isNone:=by cases x<;>cases o<;>simp_all[yS]
def zeZ{o:Oper}{T:TypeId}{s:Nat}{x:MX}{lo hi:Option MX}{ox:Operand}{l h mx:Option Operand}(ho:o.op=.slice T ox l h mx)(hc:gY P (.slice s x lo hi) (.slice T ox l h mx)=true){K:AV->Prop}
  (hK:match X get x with
  |.c (.d (.sl e s' es))=>s=s'/\bnd get es.length (λh=>bnd get 0 (λl=>l<=h/\h<=es.length/\K (.c (.d (.sl (e&&hi.isNone) s ((es.take h).drop l))))) lo) hi
  |.c (.msl s' b off len)=>s=s'/\bnd get len (λh=>bnd get 0 (λl=>l<=h/\h<=len/\K (.c (.msl s b (off+l) (h-l)))) lo) hi
  |_=>False):∃v,gz P o get m [] [] v/\K v:=by
 simp only[gY,aC]at hc;obtain⟨⟨⟨⟨c0,c1⟩,hx⟩,c2⟩,c3⟩:=hc;have hmx:mx=none:=by cases mx<;>simp_all
 subst hmx;split at c0
 ·rename_i et het;simp only[aV]at c0;obtain⟨e,hu,hei⟩:=DR het;have ops:∀k,(ox=.tmp k\/l=some (.tmp k)\/h=some (.tmp k))->Operand.tmp k∈o.op.operands:=by
   intro k hk;rw[ho];simp only[Op.operands];rcases hk with hk|hk|hk<;>simp[hk]
  have base:∀(v:AV) (L H:Nat)
    (HL:∀{ph:PH} {ρ:RM} {a:Act},(∀k,l=some (.tmp k)->RepV ph ρ (get k) (a.tmps.getD k undef))->∀y,l=some y->∃k,a.eval y=.int k L)
    (HH:∀{ph:PH} {ρ:RM} {a:Act},(∀k,h=some (.tmp k)->RepV ph ρ (get k) (a.tmps.getD k undef))->∀y,h=some y->∃k,a.eval y=.int k H)
    (hl0:l=none->L=0) (hLH:L<=H)
    (HV:∀(ph:PH) (ρ:RM) (p:Value),RepV ph ρ (X get x) p->∃A len cap,p=.slice A len cap/\(h=none->H=len)/\H<=cap/\RepV ph ρ v (.slice (if cap=L then A else A.map (·.add (L*s))) (H-L) (cap-L))),gz P o get m [] [] v:=by
   intro v L H HL HH hl0 hLH HV;refine gz.of_pure λm' h1 ph ρ w a hr hg=>?_;have r1:=jF hx (ph:=ph) (ρ:=ρ) (get:=get) (a:=a) λk hk=>hg k (ops k (.inl hk));obtain⟨A,len,cap,e1,e2,e3,rv⟩:=HV ph ρ _ r1;refine⟨_,?_,rv⟩;unfold execOp;rw[ho];refine dz ?_ (dx _);show fe P (Instr.sliceAt T (a.eval ox) (l.map a.eval) (h.map a.eval) none) w _ w;rw[e1];unfold Instr.sliceAt;refine(eT hu).bind ?_;unfold Instr.slice;refine(eT hu).bind ?_;refine(Qb (l:=L) (h:=H) ?_ (λhh=>hl0 (EX hh)) ?_ (λhh=>e2 (EX hh)) hLH e3).bind ?_
   ·intro y hy;cases hl:l with
    |none=>rw[hl]at hy;cases hy
    |some z=>
     rw[hl]at hy;simp only[Option.map_some,aO]at hy;subst hy;exact HL (λk hk=>hg k (ops k (.inr (.inl hk)))) z hl
   ·intro y hy;cases hh:h with
    |none=>rw[hh]at hy;cases hy
    |some z=>
     rw[hh]at hy;simp only[Option.map_some,aO]at hy;subst hy;exact HH (λk hk=>hg k (ops k (.inr (.inr hk)))) z hh
   refine(fD hei).bind ?_;rw[c0];exact dx _
  split at hK
  ·rename_i fl s' es ex;obtain⟨k1,hK⟩:=hK;subst k1;obtain⟨H,hK,hH0,HH⟩:=DT hK c3;obtain⟨L,⟨g1,g2,kk⟩,hL0,HL⟩:=DT hK c2;refine⟨_,base _ L H HL HH hL0 g1 λph ρ p rp=>?_,kk⟩;rw[ex]at rp;simp only[RepV,RepC,RepD]at rp⊢;obtain⟨A,cap,r1,r2,r3,r4,r5,r6,r7⟩:=rp;have hlen:((es.take H).drop L).length=H-L:=by simp;omega
   refine⟨A,es.length,cap,r1,hH0,by omega,_,_,by rw[hlen],by omega,?_,by omega,?_,?_,?_⟩
   ·intro hf;simp only[aC]at hf;have hn:=zeC c3;rw[hf.2]at hn;have hh:h=none:=by
     cases h with
     |none=>rfl
     |some _=>cases hn
    have:=hH0 hh;have:=r3 hf.1;omega
   ·intro hA;split at hA
    ·have:=r5 hA;rw[this.1];simp;omega
    ·have hA':A=none:=EX hA;have:=r5 hA';rw[this.1];simp;omega
   ·intro p hp hcap;split at hp
    ·exact r6 p hp (by omega)
    ·cases A with
     |none=>cases hp
     |some q=>
      simp only[Option.map_some,aO]at hp;rw[<-hp];have:=r6 q rfl (by omega);obtain⟨B,of,sp⟩:=q;simp only at this;subst this;rw[addr_add]
   ·split
    ·rename_i hcl;have:(es.take H).drop L=[]:=aa.1 (by rw[hlen];omega);rw[this];simp[RepE]
    ·cases A with
     |none=>have:=(r5 rfl).1;subst this;simp[RepE]
     |some q=>
      have:=r6 q rfl (by omega);obtain⟨B,of,sp⟩:=q;simp only at this;subst this;simp only[Option.map_some,addr_add,cellsAt]at r7⊢;rw[<-bO];exact(r7.take H).drop L
  ·rename_i s' b off len ex;obtain⟨k1,hK⟩:=hK;subst k1;obtain⟨H,hK,hH0,HH⟩:=DT hK c3;obtain⟨L,⟨g1,g2,kk⟩,hL0,HL⟩:=DT hK c2;refine⟨_,base _ L H HL HH hL0 g1 λph ρ p rp=>?_,kk⟩;rw[ex]at rp;simp only[RepV,RepC]at rp⊢;obtain⟨q,A,r1,r2,r3,r4,r5⟩:=rp;refine⟨A,len,q.2-off,r2,hH0,by omega,q,_,r1,by rw[Nat.sub_sub],by omega,λhlt=>?_,λz hz hcap=>?_⟩
   ·rw[aA (by omega),r4 (by omega)];simp only[Option.map_some,addr_add,bD]
   ·split at hz
    ·exact r5 z hz (by omega)
    ·cases A with
     |none=>cases hz
     |some y=>
      simp only[Option.map_some,aO]at hz;rw[<-hz];have:=r5 y rfl (by omega);obtain⟨B,of,sp⟩:=y;simp only at this;subst this;rw[addr_add]
  ·exact hK.elim
 ·cases c0
def zeD{o:Oper}{T:TypeId}{x:MX}{lo hi:Option MX}{ox:Operand}{l h mx:Option Operand}(ho:o.op=.slice T ox l h mx)(hc:gY P (.sliceS x lo hi) (.slice T ox l h mx)=true){K:AV->Prop}{t:di}
  (ex:X get x=.c (.d (.str t))) (hK:bnd get t.size (λh=>bnd get 0 (λl=>l<=h/\h<=t.size/\K (.c (.d (.str (t.extract l h))))) lo) hi):∃v,gz P o get m [] [] v/\K v:=by
 simp only[gY,aC]at hc;obtain⟨⟨⟨⟨c0,c1⟩,hx⟩,c2⟩,c3⟩:=hc;have hmx:mx=none:=by cases mx<;>simp_all
 subst hmx;split at c0
 ·rename_i hu;have ops:∀k,(ox=.tmp k\/l=some (.tmp k)\/h=some (.tmp k))->Operand.tmp k∈o.op.operands:=by
   intro k hk;rw[ho];simp only[Op.operands];rcases hk with hk|hk|hk<;>simp[hk]
  obtain⟨H,hK,hH0,HH⟩:=DT hK c3;obtain⟨L,⟨g1,g2,kk⟩,hL0,HL⟩:=DT hK c2;refine⟨_,gz.of_pure λm' h1 ph ρ w a hr hg=>?_,kk⟩;have r1:=jF hx (ph:=ph) (ρ:=ρ) (get:=get) (a:=a) λk hk=>hg k (ops k (.inl hk));rw[ex]at r1;simp only[RepV,RepC,RepD]at r1;refine⟨.string (t.extract L H),?_,?_⟩
  ·unfold execOp;rw[ho];refine dz ?_ (dx _);show fe P (Instr.sliceAt T (a.eval ox) (l.map a.eval) (h.map a.eval) none) w _ w;rw[r1.1];unfold Instr.sliceAt;refine(eT hu).bind ?_;unfold Instr.slice;refine(eT hu).bind ?_;refine(Qb (l:=L) (h:=H) ?_ (λhh=>hL0 (EX hh)) ?_ (λhh=>hH0 (EX hh)) g1 g2).bind ?_
   ·intro y hy;cases hl:l with
    |none=>rw[hl]at hy;cases hy
    |some z=>
     rw[hl]at hy;simp only[Option.map_some,aO]at hy;subst hy;exact HL (λk hk=>hg k (ops k (.inr (.inl hk)))) z hl
   ·intro y hy;cases hh:h with
    |none=>rw[hh]at hy;cases hy
    |some z=>
     rw[hh]at hy;simp only[Option.map_some,aO]at hy;subst hy;exact HH (λk hk=>hg k (ops k (.inr (.inr hk)))) z hh
   exact dx _
  ·simp only[RepV,RepC];unfold RepD;refine⟨rfl,?_⟩;have:=r1.2;rw[ByteArray.size_extract];omega
 ·cases c0
end
end Go.Abs
namespace Go.Abs
variable [jQ]
section
variable {P:Program} {get:Nat->AV} {m:Hp} {n:Nat}
def Hd(a b:di):(a==b)=decide (a=b):=by
 rw[beq_toListBytes,toList_inj]
def su:Nat->TypeDesc->Prop
 |0,.int _=>True
 |1,.string=>True
 |2,.bool=>True
 |_,_=>False
def zL:Nat->D->Prop
 |3,d=>∃k a s,d=.sc (.agg ⟨[.int k a,.string s]⟩)
 |_,_=>True
def Hf{ph:PH}{ρ:RM}{kk:Nat}{v:AV}{d:D}{u:Value}(e:rP kk v=.c (.d d))(r:RepV ph ρ v u):RepD ph d u/\zL kk d:=by
 unfold rP at e;split at e
 · rename_i k a s;simp only[AV.c.injEq,AC.d.injEq]at e;subst e;refine⟨?_,k,a,s,rfl⟩;simp only[RepV]at r;obtain⟨vs,r1,r2,r3⟩:=r
   match vs,r2,r3,r1 with
   | [x,y],_,r3,r1=>
     simp only[gK,RepC,RepD,and_true]at r3;obtain⟨⟨_,r4,_⟩,_,r5,_⟩:=r3;simp only[RepD];rw[r1,r4,r5]
 · cases e
 · rename_i h4 h3;subst e;simp only[RepV,RepC]at r;refine⟨r,?_⟩;unfold zL;split
   · first|exact(h3 rfl).elim|exact(h4 rfl).elim
   · trivial
def Qc{kk:Nat}{kind:TypeDesc}(hk:su kk kind){ph:PH}{d d':D}{u u':Value}{t:Bool}(r:RepD ph d u)(r':RepD ph d' u')(h:xO kk d d'=some t):Instr.sameNow kind u u'=some t:=by
 unfold xO at h;split at h
 · split at h
   · rename_i hkk;cases h;simp only[RepD]at r r';obtain⟨rfl,_⟩:=r;obtain⟨rfl,_⟩:=r';cases kind<;>first|exact hk.elim|skip
     subst hkk;simp only[Instr.sameNow,if_true];exact bu some (by rw[Bool.eq_iff_iff];simp)
   · cases h
 · cases h;simp only[RepD]at r r';obtain⟨rfl,_⟩:=r;obtain⟨rfl,_⟩:=r';cases kind<;>first|exact hk.elim|skip
   simp[Instr.sameNow,Hd]
 · cases h;simp only[RepD]at r r';subst r;subst r';cases kind<;>first|exact hk.elim|skip
   simp[Instr.sameNow]
 · exact hk.elim
 · cases h
def Qd {kk:Nat} {kind:TypeDesc} (hk:su kk kind) {ph:PH} {ρ:RM} {d:D} {u:Value} (r:RepD ph d u):∀{es:List (D × AV)} {ms:List MapEntry} {i:Nat} {res:Option (Nat × AV)},RepM ph ρ es ms->jS kk d es i=some res->
   ∃ res',Instr.findNow kind u ms i=some res'/\(match res,res' with
     |none,none=>True
     |some (j,v),some (j',x)=>j=j'/\i<=j/\(∃e,ms[j-i]?=some e/\e.val=x/\Instr.sameNow kind u e.key=some true)/\RepV ph ρ v x
     |_,_=>False)
 | [],ms,i,res,rm,h=>by
   simp only[RepM]at rm;subst rm;simp only[jS]at h;cases h;exact⟨none,rfl,trivial⟩
 |e::es,[],i,res,rm,h=>by simp[RepM]at rm
 | e ::es,x::ms,i,res,rm,h=>by
   simp only[RepM]at rm;simp only[jS]at h;split at h
   · rename_i hq;cases h;have:=Qc hk r rm.1.1 hq;exact⟨some (i,x.val),by simp[Instr.findNow,this],rfl,aK _,⟨x,by simp,rfl,this⟩,rm.1.2⟩
   · rename_i hq;have:=Qc hk r rm.1.1 hq;obtain⟨res',h1,h2⟩:=Qd hk r rm.2 h;refine⟨res',by simp only[Instr.findNow,this];exact h1,?_⟩
     match res,res',h2 with
     |none,none,_=>trivial
     | some (j,v),some (j',y),⟨g1,g2,⟨e',g3,g4⟩,g5⟩=>
       refine⟨g1,by omega,⟨e',?_,g4⟩,g5⟩;rw[show j-i=(j-(i+1))+1 by omega];simpa using g3
   · cases h
def zd4{k:TypeId}{kind:TypeDesc}(hu:P.underlying k=some kind){u:Value}{ms:List MapEntry}{w:World}{r:Option (Nat × Value)}(h:Instr.findNow kind u ms 0=some r):fe P (Instr.findKey k u ms) w r w:=by
 unfold Instr.findKey;refine(eT hu).bind ?_;rw[h];exact dx _
def zdB{k:TypeId}{kind:TypeDesc}{kk:Nat}(hk:su kk kind)(hu:P.underlying k=some kind)(b:Bool)(u:Value)(w:World):fe P (Instr.checkKey b 10000 k u) w () w:=by
 unfold Instr.checkKey;refine(eT hu).bind ?_
 match kk,kind,hk with
 |0,.int _,_=>cases u<;>exact dx _
 |1,.string,_=>cases u<;>exact dx _
 |2,.bool,_=>cases u<;>exact dx _
def zfE{kind:TypeDesc}{kk:Nat}(hk:su kk kind){u e:Value}(h:Instr.sameNow kind u e=some true)(w:World):fe P (Instr.keyThatStays e u) w u w:=by
 unfold Instr.keyThatStays;have:Instr.sameBits 10000 e u=true:=by
   match kk,kind,hk with
   | 0,.int _,_=>
     cases u<;>cases e<;>simp[Instr.sameNow]at h;simp[Instr.sameBits,h]
   | 1,.string,_=>
     cases u<;>cases e<;>simp[Instr.sameNow,Hd]at h;simp[Instr.sameBits,Hd,h]
   | 2,.bool,_=>
     cases u<;>cases e<;>simp[Instr.sameNow]at h;simp[Instr.sameBits,h]
 rw[aB this];exact dx _
def DU{T:TypeId}{kk:Nat}{kind:TypeDesc}(hk:su kk kind)(hu:P.underlying T=some kind){us:List Value}{i:Nat}{u:Value}(h:us[i]?=some u)(w:World):(part T us.toArray i).run P w=.ok u w:=by
 have ha:xN kind=false:=by
   match kk,kind,hk with
   |0,.int _,_=>rfl
   |1,.string,_=>rfl
   |2,.bool,_=>rfl
 have:fe P (part T us.toArray i) w u w:=by
   unfold part;refine(fe.isAgg hu).bind ?_;rw[ha];simp only[au,if_false];rw[show us.toArray[i]?=some u from by simpa using h];exact dx _
 exact this
structure A8 (P:Program) (kk:Nat) (kt:TypeId):Prop where
  chk:∀(b:Bool) (d:D) (u:Value) (ph:PH) (w:World),RepD ph d u->zL kk d->fe P (Instr.checkKey b 10000 kt u) w () w
  find:∀{ph:PH} {ρ:RM} {d:D} {u:Value} {es:List (D × AV)} {ms:List MapEntry} {res:Option (Nat × AV)},RepD ph d u->zL kk d->RepM ph ρ es ms->jS kk d es 0=some res->
    ∃ res':Option (Nat × Value),(∀w,fe P (Instr.findKey kt u ms) w res' w)/\(match res,res' with
      |none,none=>True
      |some (j,v),some (j',x)=>j=j'/\(∃e,ms[j]?=some e/\e.val=x/\∀w,fe P (Instr.keyThatStays e.key u) w u w)/\RepV ph ρ v x
      |_,_=>False)
def KP{k:IntKind}{a:Int}{s:di}{d:D}{t:Bool}(h:xO 3 (.sc (.agg ⟨[.int k a,.string s]⟩)) d=some t):∃b s',d=.sc (.agg ⟨[.int k b,.string s']⟩)/\t=(decide (a=b)&&decide (s=s')):=by
 unfold xO at h;split at h
 · rename_i h3 _;cases h3
 · rename_i h3 _;cases h3
 · rename_i h3 _;cases h3
 · rename_i k0 b0 s0 k' b s' h3 h0;simp only[D.sc.injEq,Value.agg.injEq,Array.mk.injEq,List.cons.injEq,Value.int.injEq,Value.string.injEq,and_true]at h0;obtain⟨⟨rfl,rfl⟩,rfl⟩:=h0;split at h
   · rename_i hk;subst hk;simp only[aO]at h;exact⟨b,s',rfl,h.symm⟩
   · cases h
 · cases h
def Qe{P:Program}{kt:TypeId}{u:Value}{e:MapEntry}{ms:List MapEntry}{i:Nat}{w:World}{t:Bool}{r:Option (Nat × Value)}(h:(Op.equal kt u e.key).run P w=.ok t w)
   (h1:t=true->r=some (i,e.val)) (h2:t=false->fe P (Instr.findAsking kt u ms (i+1)) w r w):fe P (Instr.findAsking kt u (e::ms) i) w r w:=by
 unfold Instr.findAsking;refine dz (a:=t) h ?_;cases t with
 |true=>rw[h1 rfl];exact dx _
 |false=>exact h2 rfl
def Qf {P:Program} {kt:TypeId} {fs:Array Field} (hu:P.underlying kt=some (.struct fs)) (hf:sj P [0,1] 0 fs.toList=true) (hs:P.stoodInHeld kt=false) {ph:PH} {ρ:RM} {k:IntKind} {a:Int} {s:di}:
   ∀{es:List (D × AV)} {ms:List MapEntry} {i:Nat} {res:Option (Nat × AV)},RepM ph ρ es ms->jS 3 (.sc (.agg ⟨[.int k a,.string s]⟩)) es i=some res->
   ∃ res':Option (Nat × Value),(∀w,fe P (Instr.findAsking kt (.agg ⟨[.int k a,.string s]⟩) ms i) w res' w)/\(match res,res' with
     |none,none=>True
     |some (j,v),some (j',x)=>j=j'/\i<=j/\(∃e,ms[j-i]?=some e/\e.val=x/\e.key=.agg ⟨[.int k a,.string s]⟩)/\RepV ph ρ v x
     |_,_=>False)
 | [],ms,i,res,rm,h=>by
   simp only[RepM]at rm;subst rm;simp only[jS]at h;cases h;exact⟨none,λw=>dx _,trivial⟩
 |e::es,[],i,res,rm,h=>by simp[RepM]at rm
 | e ::es,x::ms,i,res,rm,h=>by
   simp only[RepM]at rm;have hq:∀t,xO 3 (.sc (.agg ⟨[.int k a,.string s]⟩)) e.1=some t->∃k' b s',x.key=.agg ⟨[.int k' b,.string s']⟩/\k=k'/\t=(decide (a=b)&&decide (s=s'))/\∀w,(Op.equal kt (.agg ⟨[.int k a,.string s]⟩) x.key).run P w=.ok t w:=by
     intro t ht;obtain⟨b,s',h1,rfl⟩:=KP ht;have rk:=rm.1.1;rw[h1]at rk;simp only[RepD]at rk
     · refine⟨k,b,s',rk,rfl,rfl,λw=>?_⟩;rw[rk];have hfo:P.fieldsOf kt=fs:=by unfold Program.fieldsOf;rw[hu]
       show(Op.equalIn 10000 kt _ _).run P w=_;rw[run_equalIn_struct w 9999 kt _ _ (by rw[hfo];exact hu) hs,hfo];have two:∃f0 f1,fs.toList=[f0,f1]:=by
         revert hf;generalize fs.toList=l;intro hf
         match l,hf with
         |[f0,f1],_=>exact⟨f0,f1,rfl⟩
         |[],hf=>simp[sj]at hf
         |[f0],hf=>simp[sj]at hf
         |f0::f1::f2::l,hf=>simp[sj]at hf
       obtain⟨f0,f1,e2⟩:=two;rw[e2]at hf⊢;simp only[sj,aC,aV,bne_iff_ne,Bool.and_true]at hf;obtain⟨⟨⟨o0,n0⟩,t0⟩,⟨o1,n1⟩,t1⟩:=hf;have u0:∃q,P.underlying f0.type=some (.int q):=by
         split at t0<;>first|(rename_i q hh;exact⟨q,hh⟩)|simp at t0
       obtain⟨q,u0⟩:=u0;have u1:P.underlying f1.type=some .string:=by
         split at t1<;>first|assumption|simp at t1
       have p0:∀(y z:Value),(part f0.type ⟨[y,z]⟩ 0).run P w=.ok y w:=λy z=>DU (kk:=0) (kind:=.int q) trivial u0 (us:=[y,z]) (by rfl) w;have p1:∀(y z:Value),(part f1.type ⟨[y,z]⟩ 1).run P w=.ok z w:=λy z=>DU (kk:=1) (kind:=.string) trivial u1 (us:=[y,z]) (by rfl) w;simp only[Op.eqFields,n0,n1,ne_eq,not_false_eq_true,if_true,o0,o1,Sem.run_bind,p0,p1,Result.andThen_ok,Nat.zero_add,run_equalIn_int w 9998 f0.type _ _ _ _ u0,run_equalIn_string w 9998 f1.type _ _ u1];by_cases hab:a=b
       · subst hab;by_cases hst:s=s'
         · subst hst;simp[toList_inj,p1,run_equalIn_string w 9998 f1.type _ _ u1]
         · simp[toList_inj,p1,run_equalIn_string w 9998 f1.type _ _ u1,hst]
       · simp[hab]
   simp only[jS]at h;split at h
   · rename_i h0;obtain⟨k',b,s',e1,e2,e3,e4⟩:=hq _ h0;cases h;refine⟨some (i,x.val),λw=>Qe (e4 w) (λ_=>rfl) (λhh=>by cases hh),rfl,aK _,⟨x,by simp,rfl,?_⟩,rm.1.2⟩;have e5:a=b/\s=s':=by simpa using e3.symm
     rw[e1,<-e2,e5.1,e5.2]
   · rename_i h0;obtain⟨k',b,s',e1,e2,e3,e4⟩:=hq _ h0;obtain⟨res',h1,h2⟩:=Qf hu hf hs rm.2 h;refine⟨res',λw=>Qe (e4 w) (λhh=>by cases hh) (λ_=>h1 w),?_⟩
     match res,res',h2 with
     |none,none,_=>trivial
     | some (j,v),some (j',y),⟨g1,g2,⟨e',g3,g4⟩,g5⟩=>
       refine⟨g1,by omega,⟨e',?_,g4⟩,g5⟩;rw[show j-i=(j-(i+1))+1 by omega];simpa using g3
   · cases h
def Qg {P:Program} {T:TypeId} {kk:Nat} (h:DJ P T kk=true):∃k e,P.underlying T=some (.map k e)/\A8 P kk k:=by
 have plain:∀{kt:TypeId} {kind:TypeDesc},P.underlying kt=some kind->su kk kind->A8 P kk kt:=λhu hkk=>
   ⟨λb d u ph w _ _=>zdB hkk hu b u w,λ{ph ρ d u es ms res} r _ rm hf=>by
     obtain⟨res',f1,f2⟩:=Qd hkk r rm hf;refine⟨res',λw=>zd4 hu f1,?_⟩
     match res,res',f2 with
     |none,none,_=>trivial
     |some (j,v),some (j',x),⟨g1,_,⟨e,g3,g4,g5⟩,g6⟩=>exact⟨g1,⟨e,by simpa using g3,g4,λw=>zfE hkk g5 w⟩,g6⟩⟩
 unfold DJ at h;split at h
 · rename_i k e hu;refine⟨k,e,hu,?_⟩;split at h<;>first|(cases h;done)|skip
   · rename_i hk;simp only[aV]at h;subst h;exact plain hk trivial
   · rename_i hk;simp only[aV]at h;subst h;exact plain hk trivial
   · rename_i hk;simp only[aV]at h;subst h;exact plain hk trivial
   · rename_i fs hk;simp only[aC,aV,bg]at h;obtain⟨⟨rfl,hf⟩,hs⟩:=h;refine⟨λb d u ph w r kf=>?_,λ{ph ρ d u es ms res} r kf rm hm=>?_⟩
     · obtain⟨q,a,s,rfl⟩:=kf;simp only[RepD]at r;subst r;have two:∃f0 f1,fs=#[f0,f1]:=by
         match fs,hf with
         |⟨[f0,f1]⟩,_=>exact⟨f0,f1,rfl⟩
         |⟨[]⟩,hf=>simp[sj]at hf
         |⟨[f0]⟩,hf=>simp[sj]at hf
         |⟨f0::f1::f2::l⟩,hf=>simp[sj]at hf
       obtain⟨f0,f1,rfl⟩:=two;simp only[sj,aC,aV,bne_iff_ne,Bool.and_true]at hf;obtain⟨⟨⟨o0,n0⟩,t0⟩,⟨o1,n1⟩,t1⟩:=hf;have u0:∃q,P.underlying f0.type=some (.int q):=by
         split at t0<;>first|(rename_i q hh;exact⟨q,hh⟩)|simp at t0
       obtain⟨q',u0⟩:=u0;have u1:P.underlying f1.type=some .string:=by
         split at t1<;>first|assumption|simp at t1
       have c0:(Instr.checkKey b 9999 f0.type (.int q a)).run P w=.ok () w:=by
         unfold Instr.checkKey;exact(eT u0).bind (dx _)
       have c1:(Instr.checkKey b 9999 f1.type (.string s)).run P w=.ok () w:=by
         unfold Instr.checkKey;exact(eT u1).bind (dx _)
       have p0:(part f0.type ⟨[.int q a,.string s]⟩ 0).run P w=.ok (.int q a) w:=DU (kk:=0) (kind:=.int q') trivial u0 (us:=[.int q a,.string s]) (by rfl) w;have p1:(part f1.type ⟨[.int q a,.string s]⟩ 1).run P w=.ok (.string s) w:=DU (kk:=1) (kind:=.string) trivial u1 (us:=[.int q a,.string s]) (by rfl) w;unfold Instr.checkKey;refine(eT hk).bind ?_;show Sem.run P _ w=_;simp[n0,n1,o0,o1,p0,p1,c0,c1]
     · obtain⟨q,a,s,rfl⟩:=kf;simp only[RepD]at r;subst r;have key:∀{res':Option (Nat × Value)} {w:World},fe P (Instr.findAsking k (.agg ⟨[.int q a,.string s]⟩) ms 0) w res' w->(ms=[]->res'=none)->fe P (Instr.findKey k (.agg ⟨[.int q a,.string s]⟩) ms) w res' w:=by
         intro res' w hr hn;unfold Instr.findKey;refine(eT hk).bind ?_;cases ms with
         |nil=>rw[hn rfl];exact dx _
         | cons x ms=>
           have:Instr.findNow (.struct fs) (.agg ⟨[.int q a,.string s]⟩) (x::ms) 0=none:=by
             simp[Instr.findNow,Instr.sameNow]
           rw[this];exact hr
       obtain⟨res',f1,f2⟩:=Qf hk hf hs rm hm;have hn:ms=[]->res'=none:=by
         intro e;subst e
         match res,res',f2 with
         |none,none,_=>rfl
         |some (j,v),some (j',x),⟨_,_,⟨e,g3,_⟩,_⟩=>simp at g3
       refine⟨res',λw=>key (f1 w) hn,?_⟩
       match res,res',f2 with
       |none,none,_=>trivial
       | some (j,v),some (j',x),⟨g1,_,⟨e,g3,g4,g5⟩,g6⟩=>
         refine⟨g1,⟨e,by simpa using g3,g4,λw=>?_⟩,g6⟩;rw[g5];unfold Instr.keyThatStays;have:Instr.sameBits 10000 (.agg ⟨[.int q a,.string s]⟩) (.agg ⟨[.int q a,.string s]⟩)=true:=by
           simp[Instr.sameBits,Hd]
         rw[aB this];exact dx _
 · cases h
def zfd{o:Oper}{T:TypeId}{r:Option Operand}(ho:o.op=.makeMap T r)(hr:r.isNone=true)(hn:m n=.non):gz P o get m [] [(n,.map [])] (.c (.map n)):=by
 refine gz.of_value λm' h1 h2 ph ρ w a hr' hg=>?_;have hn':m' n=.non:=(h2 (n,.map []) (by simp)).trans hn;have hr0:r=none:=by cases r<;>simp_all
 subst hr0;obtain⟨H,S⟩:=hr'.pushO (.map #[] 0) hn' 0 (blk:=.map []) (by simp) ⟨[],0,Cu _ _,by simp[RepM],by simp,by simp⟩;refine⟨_,_,{w with heap:=w.heap.push (.map #[] 0)},.map (some w.heap.size),?_,S,H,fC w,?_⟩
 · unfold execOp;rw[ho];refine dz (a:=.map (some w.heap.size)) ?_ (dx _);show fe P (Instr.makeMap T none) w _ _;unfold Instr.makeMap;exact(fH _).bind (dx _)
 · simp only[RepV,RepC];exact⟨_,zae _ _ _,rfl⟩
def Qh{e:TypeId}{i:TypeInfo}{z:List D}{ag:Bool}{zv:Value}(ez:i.zero=some zv)(hc:vL z (zeroOf i)=true)(hag:(match i.zero with|some (.agg _)=>ag|some (.tuple _)=>false|some _=> !ag|none=>false)=true)(ph:PH)(ρ:RM):RepV ph ρ (je ag z) zv:=by
 have e0:zeroOf i=zv.cells.toList:=by simp[zeroOf,ez]
 obtain⟨c1,c2⟩:=BP hc;have c3:=c2 ph;rw[e0]at c1 c3;rw[ez]at hag;cases zv with
 | agg cs=>
   simp only at hag;subst hag;simp only[je,RepV];exact⟨cs.toList,by simp,by simpa[Value.cells]using c1,gK.of_D (by simpa[Value.cells]using c3)⟩
 |tuple cs=>cases hag
 | _=>
   have:ag=false:=by simpa using hag
   subst this;simp only[Value.cells,List.length_cons,List.length_nil]at c1 c3
   match z,c1 with
   |[d],_=>simp only[je,List.headD_cons,RepV,RepC];simp only[RepL]at c3;exact c3.1.2
def KQ(ok ag:Bool)(z:List D):Option (Nat × AV)->AV
 |some (_,v)=>if ok then .tup [v,.c (.d (.bool true))]else v
 |none=>if ok then .tup [je ag z,.c (.d (.bool false))]else je ag z
def Qi(es:List (D × AV))(d:D)(v:AV):Option (Nat × AV)->List (D × AV)
 |some (i,_)=>es.set i (d,v)
 |none=>es++[(d,v)]
def MapAt(get:Nat->AV)(m:Hp)(x:MX)(es:List (D × AV))(rd:List Nat):Prop:=∀m':Hp,(∀b,b∈rd->m' b=m b)->∀(ph:PH) (ρ:RM) (w:World) (u:Value),HRel ph ρ m' w.heap->RepV ph ρ (X get x) u->
 ∃ms:List MapEntry,RepM ph ρ es ms/\((u=.map none/\ms=[])\/∃B ck,u=.map (some B)/\w.heap[B]?=some (.map ms.toArray ck))
def Qj{x:MX}{b:Nat}{es:List (D × AV)}(ex:X get x=.c (.map b))(em:m b=.map es):MapAt get m x es [b]:=λm' h1 ph ρ w u hr r1=>by
 rw[ex]at r1;simp only[RepV,RepC]at r1;obtain⟨p,hp,e1⟩:=r1;have how:=hr.own b p hp;rw[h1 b (by simp),em]at how;obtain⟨ms,clock,g1,g2,g3,g4⟩:=how;exact⟨ms,g2,.inr ⟨_,clock,e1,g1⟩⟩
def KR{ph:PH}{ρ:RM}:∀{ks us:List D} {ms:List MapEntry},ms.length=ks.length->ms.length=us.length->RepL ph ks (ms.map (·.key))->RepL ph us (ms.map (·.val))->RepM ph ρ (pU ks us) ms
 |[],_,[],_,_,_,_=>by simp[pU,RepM]
 |[],_,_::_,h,_,_,_=>by simp at h
 |k::ks,[],[],h,_,_,_=>by simp at h
 |k::ks,[],_::_,_,h,_,_=>by simp at h
 |k::ks,u::us,[],h,_,_,_=>by simp at h
 | k::ks,u::us,e::ms,h1,h2,r1,r2=>by
   simp only[List.map_cons,RepL]at r1 r2;simp only[pU,RepM,RepV,RepC];exact⟨⟨r1.1.2,r2.1.2⟩,KR (by simpa using h1) (by simpa using h2) r1.2 r2.2⟩
def Qk{x:MX}{ks us:List D}(ex:X get x=.c (.d (.mp ks us))):MapAt get m x (pU ks us) []:=λm' _ ph ρ w u hr r1=>by
 rw[ex]at r1;simp only[RepV,RepC,RepD]at r1;obtain⟨B,ms,ck,e1,e2,e3,e4,⟨e5,e6⟩,_⟩:=r1;exact⟨ms,KR e3 e4 e5 e6,.inr ⟨B,ck,e1,hr.pers B _ e2⟩⟩
def zfg{x:MX}(ex:X get x=.c (.d (.sc (.map none)))):MapAt get m x [] []:=λm' _ ph ρ w u hr r1=>by
 rw[ex]at r1;simp only[RepV,RepC,RepD]at r1;exact⟨[],by simp[RepM],.inl ⟨r1,rfl⟩⟩
def EY {o:Oper} {T:TypeId} {kk:Nat} {ok ag:Bool} {z:List D} {x k:MX} {ox okk:Operand} {ok':Bool} (ho:o.op=.lookup T ox okk ok') (hc:gY P (.mlook kk ok ag z x k) (.lookup T ox okk ok')=true) {rd:List Nat} {d:D} {es:List (D × AV)}
   (ek:rP kk (X get k)=.c (.d d)) (HM:MapAt get m x es rd) {res:Option (Nat × AV)} (hf:jS kk d es 0=some res):
   gz P o get m rd [] (KQ ok ag z res):=by
 simp only[gY,aC,aV]at hc;obtain⟨⟨⟨⟨rfl,hx⟩,hk⟩,hT⟩,hz⟩:=hc;obtain⟨kt,et,hu,hkk⟩:=Qg hT;unfold QX at hz;rw[hu]at hz;simp only at hz;split at hz
 · rename_i i hi;simp only[aC,aV]at hz;obtain⟨⟨⟨z1,z2⟩,z3⟩,z4⟩:=hz;obtain⟨zv,ez⟩:=bF.1 z1;refine gz.of_pure λm' h1 ph ρ w a hr hg=>?_;have r1:=jF hx (ph:=ph) (ρ:=ρ) (get:=get) (a:=a) λk hk=>hg k (by rw[ho];simp[Op.operands,hk]);have r2:=jF hk (ph:=ph) (ρ:=ρ) (get:=get) (a:=a) λk hk=>hg k (by rw[ho];simp[Op.operands,hk]);have kf:=(Hf ek r2).2
   replace r2:=(Hf ek r2).1
   obtain⟨ms,g2,hM⟩:=HM m' h1 ph ρ w _ hr r1;obtain⟨res',f1,f2⟩:=hkk.find r2 kf g2 hf;have run:∀(v:Value) (t:Bool),(Option.elim res' (zv,false) λy=>(y.2,true))=(v,t)->fe P (execOp a.eval o) w (.value (if ok then .tuple #[v,.bool t]else v)) w:=by
     intro v t hv;unfold execOp;rw[ho];refine dz (a:=if ok then .tuple #[v,.bool t]else v) ?_ (dx _);show fe P (Instr.lookup T (a.eval ox) (a.eval okk) ok) w _ w;unfold Instr.lookup
     have tail:∀es:Array MapEntry,es=ms.toArray->fe P (do
         Instr.checkKey es.isEmpty 10000 kt (a.eval okk)
         let(v,ok')<-match<-Instr.findKey kt (a.eval okk) es.toList with
           |some (_,v)=>pure (v,true)
           |none=>pure (<-zeroValue et,false)
         pure (if ok then .tuple #[v,.bool ok']else v)) w (if ok then .tuple #[v,.bool t]else v) w:=by
       intro es hes;subst hes;refine(hkk.chk _ _ _ _ _ r2 kf).bind ?_;refine(show fe P (Instr.findKey kt _ _) _ _ _ by simpa using f1 _).bind ?_;cases res' with
       | none=>
         simp only[Option.elim,ax]at hv;obtain⟨rfl,rfl⟩:=hv;refine(fE hi ez).bind ?_;refine(dx (zv,false)).bind ?_;exact dx _
       | some y=>
         simp only[Option.elim,ax]at hv;obtain⟨rfl,rfl⟩:=hv;refine(dx (y.2,true)).bind ?_;exact dx _
     refine(eT hu).bind ?_;simp only;rcases hM with⟨e1,e2⟩|⟨B,ck,e1,g1⟩
     · rw[e1];refine(dx (#[]:Array MapEntry)).bind ?_;exact tail _ (by rw[e2])
     · rw[e1];refine(fe.getObj g1 (by simp)).bind ?_;refine(dx ms.toArray).bind ?_;exact tail _ rfl
   clear f1 hf
   match res,res',f2,run with
   | none,none,_,run=>
     refine⟨_,run zv false rfl,?_⟩;simp only[KQ];have:=Qh (e:=et) ez z2 z4 ph ρ;cases ok
     · exact this
     · simp only[if_true,RepV];exact⟨[zv,.bool false],rfl,by simp[zad,RepV,RepC,RepD,this]⟩
   | some (j,v),some (j',y),⟨q1,q3,q4⟩,run=>
     refine⟨_,run y true rfl,?_⟩;simp only[KQ];cases ok
     · exact q4
     · simp only[if_true,RepV];exact⟨[y,.bool true],rfl,by simp[zad,RepV,RepC,RepD,q4]⟩
 · cases hz
def RepM.append{ph:PH}{ρ:RM}:∀{es es':List (D × AV)} {ms ms':List MapEntry},RepM ph ρ es ms->RepM ph ρ es' ms'->RepM ph ρ (es++es') (ms++ms')
 |[],_,ms,_,h,h'=>by simp only[RepM]at h;subst h;simpa using h'
 |_::_,_,[],_,h,_=>by simp[RepM]at h
 | e::es,_,x::ms,_,h,h'=>by
   simp only[RepM]at h;simp only[List.cons_append,RepM];exact⟨h.1,RepM.append h.2 h'⟩
def RepM.set{ph:PH}{ρ:RM}{e:D × AV}{x:MapEntry}(hx:RepD ph e.1 x.key/\RepV ph ρ e.2 x.val):∀{es:List (D × AV)} {ms:List MapEntry} (i:Nat),RepM ph ρ es ms->RepM ph ρ (es.set i e) (ms.set i x)
 |[],ms,i,h=>by simp only[RepM]at h;subst h;simp[RepM]
 |_::_,[],_,h=>by simp[RepM]at h
 | f::es,y::ms,0,h=>by
   simp only[RepM]at h;simp only[List.set_cons_zero,RepM];exact⟨hx,h.2⟩
 | f::es,y::ms,i+1,h=>by
   simp only[RepM]at h;simp only[List.set_cons_succ,RepM];exact⟨h.1,RepM.set hx i h.2⟩
def Ql{b:Nat}{es es':List (D × AV)}{m':Hp}{ph:PH}{ρ:RM}{w:World}{p:Nat × Nat}{ms ms':List MapEntry}{clock clock':Nat}(hr:HRel ph ρ m' w.heap)(hp:ρ b=some p)(em:m' b=.map es)(g1:w.heap[p.1]?=some (.map ms.toArray clock))
   (g2:RepM ph ρ es' ms') (g3:∀e,e∈ms'->e.born<clock') (g4:(ms'.map (·.born)).Nodup):
   HRel ph ρ (upd m' b (.map es')) (w.heap.setIfInBounds p.1 (.map ms'.toArray clock'))/\Step ph ρ m' w.heap ph ρ (upd m' b (.map es')) (w.heap.setIfInBounds p.1 (.map ms'.toArray clock')):=by
 have hreal:Real (m' b) p:=by rw[em];trivial
 exact hr.set _ hp hreal (by simp) ⟨ms',clock',Cw _ _ (hr.real_lt hp hreal),g2,g3,g4⟩
def Hg {o:Oper} {T:TypeId} {kk:Nat} {x k v:MX} {ox okk ov:Operand} (ho:o.op=.mapUpdate T ox okk ov\/o.op=.insert T ox okk ov) (hx:gN x ox=true) (hk:gN k okk=true) (hv:gN v ov=true) (hT:DJ P T kk=true) {b:Nat} {d:D} {es:List (D × AV)}
   (ex:X get x=.c (.map b)) (ek:rP kk (X get k)=.c (.d d)) (em:m b=.map es) {res:Option (Nat × AV)} (hf:jS kk d es 0=some res):
   gz P o get m [] [(b,.map (Qi es d (X get v) res))] (.c (.d .any)):=by
 obtain⟨kt,et,hu,hkk⟩:=Qg hT;refine gz.of_skip λm' h1 h2 ph ρ w a hr hg=>?_;have ops:∀k,(ox=.tmp k\/okk=.tmp k\/ov=.tmp k)->Operand.tmp k∈o.op.operands:=by
   intro k hk;rcases ho with ho|ho<;>rw[ho]<;>rcases hk with hk|hk|hk<;>simp[Op.operands,hk]
 have r1:=jF hx (ph:=ph) (ρ:=ρ) (get:=get) (a:=a) λk hk=>hg k (ops k (.inl hk));have r2:=jF hk (ph:=ph) (ρ:=ρ) (get:=get) (a:=a) λk hk=>hg k (ops k (.inr (.inl hk)));have r3:=jF hv (ph:=ph) (ρ:=ρ) (get:=get) (a:=a) λk hk=>hg k (ops k (.inr (.inr hk)));rw[ex]at r1;have kf:=(Hf ek r2).2
 replace r2:=(Hf ek r2).1
 simp only[RepV,RepC]at r1;obtain⟨p,hp,e1⟩:=r1;have em':m' b=.map es:=(h2 (b,.map (Qi es d (X get v) res)) (aP.2 rfl)).trans em;have how:=hr.own b p hp;rw[em']at how;obtain⟨ms,clock,g1,g2,g3,g4⟩:=how;obtain⟨res',f1,f2⟩:=hkk.find r2 kf g2 hf;have run:∀w',fe P (Instr.mapUpdate T (a.eval ox) (a.eval okk) (a.eval ov)) w () w'->fe P (execOp a.eval o) w .skip w':=by
   intro w' h;rcases ho with ho|ho<;>(unfold execOp;rw[ho];exact h.bind (dx _))
 match res,res',f2,f1 with
 | none, none,_,f1=>
   obtain⟨H,S⟩:=Ql (es':=es++[(d,X get v)]) (ms':=ms++[{key:=a.eval okk,val:=a.eval ov,born:=clock}]) (clock':=clock+1) hr hp em' g1 (g2.append (by simp only[RepM];exact⟨⟨r2,r3⟩,trivial⟩))
     (by intro e he;rw[aU]at he;rcases he with he|he
         · have:=g3 e he;omega
         · simp at he;subst he;simp)
     (by rw[List.map_append,bz]
         refine⟨g4,by simp,?_⟩;intro q hq q' hq' hqq;simp at hq';obtain⟨e,he,rfl⟩:=bI.1 hq;have:=g3 e he
         omega)
   refine⟨_,_,{w with heap:=w.heap.setIfInBounds p.1 (.map (ms++[({key:=a.eval okk,val:=a.eval ov,born:=clock}:MapEntry)]).toArray (clock+1))},run _ ?_,S,H,fC w⟩;unfold Instr.mapUpdate;rw[e1];refine(eT hu).bind ?_;simp only;refine(fe.getObj g1 (by simp)).bind ?_;refine(hkk.chk _ _ _ _ _ r2 kf).bind ?_;refine(show fe P (Instr.findKey kt _ _) _ _ _ by simpa using f1 _).bind ?_;simp only;have:=fe.setObj (P:=P) (w:=w) (o':=.map (ms.toArray.push {key:=a.eval okk,val:=a.eval ov,born:=clock}) (clock+1)) g1 (by simp);simpa using this
 | some (j,y),some (j',z),⟨q1,⟨e,q3,q4,q5⟩,q6⟩,f1=>
   subst q1;have hjl:j<ms.length:=by
     rcases aX j ms.length with h|h
     · exact h
     · rw[aM h]at q3;cases q3
   have hget:ms[j]'hjl=e:=by rw[aD hjl]at q3;simpa using q3
   have hmem:e∈ms:=by rw[<-hget];exact ai hjl
   have hborn:(ms.set j {key:=a.eval okk,val:=a.eval ov,born:=e.born}).map (·.born)=ms.map (·.born):=by
     rw[List.map_set];simp only;apply bi;intro q;rw[List.getElem?_set];split
     · rename_i hq;subst hq;split
       · simp[aD hjl,hget]
       · rw[aM (by omega)]
     · rfl
   obtain⟨H,S⟩:=Ql (es':=es.set j (d,X get v)) (ms':=ms.set j {key:=a.eval okk,val:=a.eval ov,born:=e.born}) (clock':=clock) hr hp em' g1 (RepM.set ⟨r2,r3⟩ j g2)
     (by intro e' he;rcases List.mem_or_eq_of_mem_set he with he|he
         · exact g3 e' he
         · subst he;exact g3 e hmem)
     (by rw[hborn];exact g4)
   refine⟨_,_,{w with heap:=w.heap.setIfInBounds p.1 (.map (ms.set j {key:=a.eval okk,val:=a.eval ov,born:=e.born}).toArray clock)},run _ ?_,S,H,fC w⟩;unfold Instr.mapUpdate;rw[e1];refine(eT hu).bind ?_;simp only;refine(fe.getObj g1 (by simp)).bind ?_;refine(hkk.chk _ _ _ _ _ r2 kf).bind ?_;refine(show fe P (Instr.findKey kt _ _) _ _ _ by simpa using f1 _).bind ?_;simp only;have hk2:(((ms.toArray[j]?).map (·.key)).getD (a.eval okk))=e.key:=by simp[q3]
   rw[hk2];refine(q5 _).bind ?_;have:=fe.setObj (P:=P) (w:=w) (o':=.map (ms.toArray.modify j λe=>{e with key:=a.eval okk,val:=a.eval ov}) clock) g1 (by simp);have e2:(ms.toArray.modify j λe=>{e with key:=a.eval okk,val:=a.eval ov})=(ms.set j {key:=a.eval okk,val:=a.eval ov,born:=e.born}).toArray:=by
     apply cu;simp only[Array.toList_modify];apply bi;intro q;rw[List.getElem?_modify,List.getElem?_set];by_cases hq:j=q
     · subst hq;have:ms[j].born=e.born:=by rw[hget]
       simp[q3,hjl,this]
     · simp[hq]
   rw[e2];rw[e2]at this;exact this
def RepL.total{ph:PH}{z:List D}{vs:List Value}(r:RepL ph z vs)(e:vs.length=z.length):∀k,RepE ph z.length (List.replicate k z) (List.replicate k vs).flatten
 |0=>by simp[RepE]
 | k +1=>by
   rw[List.replicate_succ,List.replicate_succ,List.flatten_cons];simp only[RepE];refine⟨trivial,?_,?_⟩
   · have:=fJ (eZ ph) z vs (List.replicate k vs).flatten r;exact this
   · rw[<-e,List.drop_left];exact RepL.total r e k|>λh=>by rw[e];exact h
def zfh{zs:List Value}(h:zs≠[])(k:Nat):(Array.range (k*zs.length)).map (λi=>zs.toArray[i%zs.toArray.size]!)=(List.replicate k zs).flatten.toArray:=by
 have h0:0<zs.length:=by cases zs<;>simp_all
 apply cu;simp only[Array.toList_map,Array.toList_range]
 induction k with
 |zero=>simp
 | succ k ih=>
   rw[List.replicate_succ',List.flatten_append,<-ih,bD,bY,List.range_add,List.map_append];congr 1;simp only[dK,List.flatten_cons,List.flatten_nil,bQ];apply bi;intro j;simp only[List.getElem?_map];by_cases hj:j<zs.length
   · rw[List.getElem?_range hj];simp only[Option.map_some,Function.comp];rw[List.size_toArray,Nat.mul_comm,Nat.mul_add_mod,Nat.mod_eq_of_lt hj];simp[aD hj,hj]
   · rw[aM (by simpa using hj),aM (by omega)];rfl
def zdi {T:TypeId} {z:List D} {bytes:Nat} (hc:KH P T z bytes=true) {j l:Int} (h0:0<=j) (hjl:j<=l) (hl:l*bytes<=70368744177664) (w:World):
   ∃ (zs:List Value) (et:TypeId),zs.length=z.length/\(∀ph,RepL ph z zs)/\0<z.length/\0<bytes/\l.toNat<=zao/\
     fe P (Instr.makeSlice T (.int .i64 j) (.int .i64 l)) w (.slice (some ⟨w.heap.size,0,none⟩) j.toNat l.toNat) {w with heap:=w.heap.push (.cells (List.replicate l.toNat zs).flatten.toArray et)}:=by
 unfold KH at hc;split at hc
 · rename_i i hi;simp only[aC,aV,aI]at hc;obtain⟨⟨⟨⟨⟨c1,c2⟩,c3⟩,c4⟩,c5⟩,c6⟩:=hc;unfold xQ at hi;split at hi
   · rename_i e hu;obtain⟨zv,ez⟩:=bF.1 c5;have e0:zeroOf i=zv.cells.toList:=by simp[zeroOf,ez]
     obtain⟨d1,d2⟩:=BP c6;rw[e0]at d1 d2;have hb1:l*1<=l*(bytes:Int):=Int.mul_le_mul_of_nonneg_left (by omega) (by omega);have hbw:∀q:Int,0<=q->q<=l->(bytes:Int)*q<=70368744177664:=λq hq hql=>by
       have:(bytes:Int)*q<=bytes*l:=Int.mul_le_mul_of_nonneg_left hql (by omega);rw[Int.mul_comm (bytes:Int) l]at this;omega
     have hwrap:∀q:Int,0<=q->q<=l->IntKind.i64.wrap q=q:=λq hq hql=>by
       have:q<=70368744177664:=by omega
       have h1:q%18446744073709551616=q:=Int.emod_eq_of_lt hq (by omega);have h2:¬(9223372036854775808<=q):=by omega
       simp[IntKind.wrap,IntKind.bits,IntKind.signed,h1,h2]
     refine⟨zv.cells.toList,e,by simpa using d1,λph=>by simpa using d2 ph,c4,c3,by unfold zao;omega,?_⟩;unfold Instr.makeSlice;refine(eT hu).bind ?_;simp only;refine dz (a:=j) (dz (a:=(.i64,j)) (dx _) (dx _)) ?_;refine dz (a:=l) (dz (a:=(.i64,l)) (dx _) (dx _)) ?_;refine(fF hi).bind ?_;rw[hwrap j h0 hjl,hwrap l (by omega) (Int.le_refl _),c2];have hl2:=hbw l (by omega) (Int.le_refl _);rw[aA (by
       simp only[bS,aI,not_or,Int.not_lt];refine⟨⟨⟨by omega,?_⟩,by omega⟩,by omega⟩;have:(2:Int)^48=281474976710656:=by decide
       omega)]
     refine(fe.askRoom _).bind ?_;refine(fD hi).bind ?_;rw[c1];have hz1:zv.cells.toList≠[]:=by
       intro h;rw[h]at d1;simp at d1;omega
     have hsz:zv.cells.toList.length=z.length:=by simpa using d1
     by_cases hl0:l.toNat*z.length=0
     · rw[aB hl0];refine(dx _).bind ?_;unfold newRow;have hl1:l.toNat=0:=by
         rcases Nat.mul_eq_zero.1 hl0 with h|h
         · exact h
         · omega
       rw[hl1];simp only[bR,List.replicate_zero,List.flatten_nil];rw[show Array.range 0=#[]from rfl,Array.map_empty];exact((fH _).bind (dx (⟨w.heap.size,0,none⟩:Addr))).bind (dx _)
     · rw[aA hl0];refine(fE hi ez).bind ?_;refine(dx zv.cells).bind ?_;have:=zfh hz1 l.toNat;rw[hsz,bE]at this;rw[this];unfold newRow;exact((fH _).bind (dx _)).bind (dx _)
   · cases hi
 · cases hc
def zeb{zs:List Value}(k:Nat):(List.replicate k zs).flatten.length=k*zs.length:=by
 induction k with
 |zero=>simp
 |succ k ih=>rw[List.replicate_succ,List.flatten_cons,aR,ih,bD,bY,dH]
def zfi{o:Oper}{T:TypeId}{z:List D}{bytes:Nat}{x y:MX}{ol oc:Operand}(ho:o.op=.makeSlice T ol oc)(hc:gY P (.mkslM z bytes x y) (.makeSlice T ol oc)=true){j l:Int}(ex:X get x=.c (.d (.int .i64 j)))(ey:X get y=.c (.d (.int .i64 l)))
   (h0:0<=j) (hjl:j<=l) (hb:l*bytes<=70368744177664) (hn:m n=.non):
   gz P o get m [] [(n,.arr z.length ((List.replicate j.toNat z).map (·.map .d)))] (.c (.msl z.length n 0 j.toNat)):=by
 simp only[gY,aC]at hc;obtain⟨⟨hx,hx'⟩,hmk⟩:=hc;refine gz.of_value λm' h1 h2 ph ρ w a hr hg=>?_;have r1:=jF hx (ph:=ph) (ρ:=ρ) (get:=get) (a:=a) λk hk=>hg k (by rw[ho];simp[Op.operands,hk]);have r2:=jF hx' (ph:=ph) (ρ:=ρ) (get:=get) (a:=a) λk hk=>hg k (by rw[ho];simp[Op.operands,hk]);rw[ex]at r1;rw[ey]at r2;simp only[RepV,RepC,RepD]at r1 r2;obtain⟨zs,et,g1,g2,g3,g4,g5,run⟩:=zdi hmk h0 hjl hb w;have hn':m' n=.non:=(h2 (n,_) (aP.2 rfl)).trans hn;have e0:=(hr.dom n).1 hn'
 obtain⟨H,S⟩:=hr.pushO (.cells (List.replicate l.toNat zs).flatten.toArray et) hn' l.toNat (blk:=.arr z.length ((List.replicate j.toNat z).map (·.map .d))) (by simp)
   (.inr ⟨(List.replicate l.toNat zs).flatten,et,Cu _ _,by rw[zeb,g1],by simp;omega,by simp;unfold zao at*;omega,by
     refine gp.of_E ?_;have:=(RepL.total (g2 ph) g1 l.toNat).take j.toNat;rw[List.take_replicate]at this
     rwa[Nat.min_eq_left (by omega)]at this⟩)
 refine⟨_,_,{w with heap:=w.heap.push (.cells (List.replicate l.toNat zs).flatten.toArray et)},.slice (some ⟨w.heap.size,0,none⟩) j.toNat l.toNat,?_,S,H,fC w,?_⟩
 · unfold execOp;rw[ho];refine dz (a:=.slice (some ⟨w.heap.size,0,none⟩) j.toNat l.toNat) ?_ (dx _);show fe P (Instr.makeSlice T (a.eval ol) (a.eval oc)) w _ _;rw[r1.1,r2.1];exact run
 · simp only[RepV,RepC];exact⟨_,some ⟨w.heap.size,0,none⟩,zae _ _ _,by simp,by simp;omega,λ_=>by simp,λq hq _=>by cases hq;rfl⟩
def zge{kk:Nat}{kind:TypeDesc}(hk:su kk kind){ph:PH}{a b:D}{u v:Value}{t:Bool}(ra:RepD ph a u)(rb:RepD ph b v)(h:xO kk a b=some t){T:TypeId}(hu:P.underlying T=some kind)
   (k:Nat) (w:World):(Op.equalIn (k+1) T u v).run P w=.ok t w:=by
 unfold xO at h;split at h
 · split at h
   · rename_i hkk;cases h;subst hkk;simp only[RepD]at ra rb;obtain⟨rfl,_⟩:=ra;obtain⟨rfl,_⟩:=rb;cases kind<;>first|exact hk.elim|skip
     rw[run_equalIn_int w k T _ _ _ _ hu];congr 1
   · cases h
 · cases h;simp only[RepD]at ra rb;obtain⟨rfl,_⟩:=ra;obtain⟨rfl,_⟩:=rb;cases kind<;>first|exact hk.elim|skip
   rw[run_equalIn_string w k T _ _ hu,toList_inj]
 · cases h;simp only[RepD]at ra rb;subst ra;subst rb;cases kind<;>first|exact hk.elim|skip
   exact run_equalIn_bool' w k T _ _ hu
 · exact hk.elim
 · cases h
def Qm {ph:PH} {us vs:List Value} {w:World} {dep:Nat}:∀{ks:List Nat} {fs:List Field} {i:Nat} {a b:List D} {t:Bool},sj P ks i fs=true->RepL ph a (us.drop i)->RepL ph b (vs.drop i)->zH ks a b=some t->
   (Op.eqFields (dep+1) us.toArray vs.toArray fs).run P w=.ok t w
 | [],[],i,a,b,t,_,ra,rb,h=>by
   match a,b,h with
   |[],[],h=>simp only[zH,aO]at h;subst h;rfl
 |[],_::_,_,_,_,_,hf,_,_,_=>by simp[sj]at hf
 |_::_,[],_,_,_,_,hf,_,_,_=>by simp[sj]at hf
 |k::ks,f::fs,i,[],b,t,_,ra,rb,h=>by simp[zH]at h
 |k::ks,f::fs,i,_::_,[],t,_,ra,rb,h=>by simp[zH]at h
 | k ::ks,f::fs,i,x::a,y::b,t,hf,ra,rb,h=>by
   simp only[sj,aC,aV,bne_iff_ne]at hf;obtain⟨⟨⟨h1,h2⟩,h3⟩,h4⟩:=hf;have hk:∃kind,P.underlying f.type=some kind/\su k kind:=by
     split at h3<;>first|(cases h3;done)|skip
     all_goals
       rename_i hu;simp only[aV]at h3;subst h3;exact⟨_,hu,trivial⟩
   obtain⟨kind,hu,hk⟩:=hk;obtain⟨u,e1,_,e3⟩:=ra.get (j:=0) rfl;obtain⟨v,f1,_,f3⟩:=rb.get (j:=0) rfl;rw[bG,Nat.add_zero]at e1 f1;have ra':=ra.drop 1;have rb':=rb.drop 1;rw[bO]at ra' rb';simp only[List.drop_succ_cons,List.drop_zero]at ra' rb';simp only[zH]at h;split at h
   · rename_i p q hp hq;cases h;have ih:=Qm (w:=w) (dep:=dep) h4 ra' rb' hq;simp only[Op.eqFields,h2,ne_eq,not_false_eq_true,if_true,h1,Sem.run_bind,DU hk hu e1,DU hk hu f1,zge hk e3 f3 hp hu,Result.andThen_ok];cases p
     · simp
     · simp[ih]
   · cases h
def zfF{o:Oper}{op:BinOp}{T U:TypeId}{ne:Bool}{ks:List Nat}{x y:MX}{ox oy:Operand}(ho:o.op=.binOp op T ox oy U)(hc:gY P (.eqAg ne ks x y) (.binOp op T ox oy U)=true){a b:List D}{t:Bool}
   {cs cs':List AC} (hcs:X get x=.ag cs) (hcs':X get y=.ag cs') (ex:jC cs=some a) (ey:jC cs'=some b) (h:zH ks a b=some t):gz P o get m [] [] (.c (.d (.bool (t^^ne)))):=by
 simp only[gY,aC,bg,aI]at hc;obtain⟨⟨⟨⟨⟨hop,hx⟩,hy⟩,hst⟩,hgd⟩,hfl⟩:=hc;obtain⟨fs,hu,hfs⟩:=zeR hfl;refine gz.of_pure λm' h1 ph ρ w ac hr hg=>?_;have r1:=jF hx (ph:=ph) (ρ:=ρ) (get:=get) (a:=ac) λk hk=>hg k (by rw[ho];simp[Op.operands,hk]);have r2:=jF hy (ph:=ph) (ρ:=ρ) (get:=get) (a:=ac) λk hk=>hg k (by rw[ho];simp[Op.operands,hk]);obtain⟨us,c1,c2,c3⟩:=KC r1 (ds:=a) (by rw[hcs];exact ex);obtain⟨vs,d1,d2,d3⟩:=KC r2 (ds:=b) (by rw[hcs'];exact ey);rw[hcs]at r1;rw[hcs']at r2;simp only[RepV]at r1 r2;obtain⟨us',e1,_,_⟩:=r1;obtain⟨vs',f1,_,_⟩:=r2;rw[e1]at c1;rw[f1]at d1;simp only[Value.cells]at c1 d1;have eu:us'=us:=by simpa using c1
 have ev:vs'=vs:=by simpa using d1
 subst eu;subst ev;have hfo:P.fieldsOf T=fs:=by unfold Program.fieldsOf;rw[hu]
 have hrun:(Op.equalIn 10000 T (.agg us'.toArray) (.agg vs'.toArray)).run P w=.ok t w:=by
   rw[run_equalIn_struct w 9999 T _ _ (by rw[hfo];exact hu) hst,hfo];exact Qm (dep:=9998) hfs (by simpa using c3) (by simpa using d3) h
 refine⟨.bool (t^^ne),?_,by simp[RepV,RepC,RepD]⟩;unfold execOp;rw[ho];refine dz (a:=.bool (t^^ne)) ?_ (dx _);show fe P (do eqGuard op T ox oy (ac.eval ox) (ac.eval oy);binOp op T (ac.eval ox) (ac.eval oy)) w _ w;rw[e1,f1];refine dz (a:=()) (w':=w) (run_eqGuard_agg w op T ox oy _ _ hgd) ?_;show(binOp op T _ _).run P w=_;cases ne
 · simp only[au,if_false]at hop;subst hop;rw[run_eql_struct,hrun];simp
 · simp only[if_true]at hop;subst hop;rw[run_neq_struct,hrun];simp
def KS{T E:TypeId}(hu:P.underlying T=some (.slice E))(w:World)(a:Option Addr)(l c:Nat):(Op.equal T (.slice a l c) (.slice none 0 0)).run P w=.ok a.isNone w:=by
 have:fe P (Op.equal T (.slice a l c) (.slice none 0 0)) w a.isNone w:=by
   show fe P (Op.equalIn (9999+1) T (.slice a l c) (.slice none 0 0)) w a.isNone w;unfold Op.equalIn;refine(eT hu).bind ?_;cases a<;>exact dx _
 exact this
def Qn {o:Oper} {op:BinOp} {T U:TypeId} {ne:Bool} {x:MX} {ox oy:Operand} (ho:o.op=.binOp op T ox oy U) (hc:gY P (.isNil ne x) (.binOp op T ox oy U)=true) {full:Bool} {s:Nat} {es:List (List D)}
   (ex:X get x=.c (.d (.sl full s es))) {v:AV} (hv:(v=.c (.op DI))\/(es≠[]/\v=.c (.d (.bool ne)))):gz P o get m [] [] v:=by
 simp only[gY,aC,aI]at hc;obtain⟨⟨⟨hop,hx⟩,hy⟩,ht⟩:=hc;split at hy
 · split at ht
   · rename_i E hu;refine gz.of_pure λm' h1 ph ρ w ac hr hg=>?_;have r1:=jF hx (ph:=ph) (ρ:=ρ) (get:=get) (a:=ac) λk hk=>hg k (by rw[ho];simp[Op.operands,hk]);rw[ex]at r1;simp only[RepV,RepC,RepD]at r1;obtain⟨a,cap,e1,e2,e3,e4,e5,e6,e7⟩:=r1;refine⟨.bool (a.isNone^^ne),?_,?_⟩
     · unfold execOp;rw[ho];refine dz (a:=.bool (a.isNone^^ne)) ?_ (dx _);show fe P (do eqGuard op T ox (.const (.slice none 0 0)) (ac.eval ox) (.slice none 0 0);binOp op T (ac.eval ox) (.slice none 0 0)) w _ w;rw[e1];refine dz (a:=()) (w':=w) ?_ ?_
       · unfold eqGuard;split<;>exact dx _
       · show(binOp op T _ _).run P w=_;have hrun:=KS hu w a es.length cap;cases ne
         · simp only[au,if_false]at hop;subst hop;show(do pure (Value.bool (<-Op.equal T (.slice a es.length cap) (.slice none 0 0))):Sem Value).run P w=_;rw[Sem.run_bind,hrun];simp
         · simp only[if_true]at hop;subst hop;show(do pure (Value.bool (!(<-Op.equal T (.slice a es.length cap) (.slice none 0 0)))):Sem Value).run P w=_;rw[Sem.run_bind,hrun];simp
     · rcases hv with rfl|⟨hne,rfl⟩
       · simp only[RepV,RepC];exact⟨_,rfl⟩
       · simp only[RepV,RepC,RepD];cases a with
         |none=>exact(hne (e5 rfl).1).elim
         |some q=>simp
   · cases ht
 · cases hy
def zeK {o:Oper} {op:BinOp} {T U:TypeId} {ne:Bool} {x:MX} {ox oy:Operand} (ho:o.op=.binOp op T ox oy U) (hc:gY P (.isNil ne x) (.binOp op T ox oy U)=true) {s b off len:Nat}
   (ex:X get x=.c (.msl s b off len)) (hl:0<len):gz P o get m [] [] (.c (.d (.bool ne))):=by
 simp only[gY,aC,aI]at hc;obtain⟨⟨⟨hop,hx⟩,hy⟩,ht⟩:=hc;split at hy
 · split at ht
   · rename_i E hu;refine gz.of_pure λm' h1 ph ρ w ac hr hg=>?_;have r1:=jF hx (ph:=ph) (ρ:=ρ) (get:=get) (a:=ac) λk hk=>hg k (by rw[ho];simp[Op.operands,hk]);rw[ex]at r1;simp only[RepV,RepC]at r1;obtain⟨p,a,_,e1,e2,e3,_⟩:=r1;obtain⟨q,rfl⟩:∃q,a=some q:=⟨_,e3 (by omega)⟩
     refine⟨.bool ((some q).isNone^^ne),?_,?_⟩
     · unfold execOp;rw[ho];refine dz (a:=.bool ((some q).isNone^^ne)) ?_ (dx _);show fe P (do eqGuard op T ox (.const (.slice none 0 0)) (ac.eval ox) (.slice none 0 0);binOp op T (ac.eval ox) (.slice none 0 0)) w _ w;rw[e1];refine dz (a:=()) (w':=w) ?_ ?_
       · unfold eqGuard;split<;>exact dx _
       · show(binOp op T _ _).run P w=_;have hrun:=KS hu w (some q) len (p.2-off);cases ne
         · simp only[au,if_false]at hop;subst hop;show(do pure (Value.bool (<-Op.equal T (.slice (some q) len (p.2-off)) (.slice none 0 0))):Sem Value).run P w=_;rw[Sem.run_bind,hrun];simp
         · simp only[if_true]at hop;subst hop;show(do pure (Value.bool (!(<-Op.equal T (.slice (some q) len (p.2-off)) (.slice none 0 0)))):Sem Value).run P w=_;rw[Sem.run_bind,hrun];simp
     · simp[RepV,RepC,RepD]
   · cases ht
 · cases hy
def zeL{T E:TypeId}(hu:P.underlying T=some (.pointer E))(w:World)(a:Option Addr):(Op.equal T (.pointer a) (.pointer none)).run P w=.ok a.isNone w:=by
 have:fe P (Op.equal T (.pointer a) (.pointer none)) w a.isNone w:=by
   show fe P (Op.equalIn (9999+1) T (.pointer a) (.pointer none)) w a.isNone w;unfold Op.equalIn;refine(eT hu).bind ?_;cases a<;>exact dx _
 exact this
def Hl {o:Oper} {op:BinOp} {T U:TypeId} {ne:Bool} {x:MX} {ox oy:Operand} (ho:o.op=.binOp op T ox oy U) (hc:gY P (.isNilP ne x) (.binOp op T ox oy U)=true)
   {v:AV} (hv:(X get x=.c (.d (.sc (.pointer none)))/\v=.c (.d (.bool !ne)))\/(((∃cs off,X get x=.c (.d (.rp cs off)))\/(∃b o,X get x=.c (.ptr b o))\/∃s b i o,X get x=.c (.ept s b i o))/\v=.c (.d (.bool ne)))):gz P o get m [] [] v:=by
 simp only[gY,aC,aI]at hc;obtain⟨⟨⟨hop,hx⟩,hy⟩,ht⟩:=hc;split at hy
 · split at ht
   · rename_i E hu;refine gz.of_pure λm' h1 ph ρ w ac hr hg=>?_;have r1:=jF hx (ph:=ph) (ρ:=ρ) (get:=get) (a:=ac) λk hk=>hg k (by rw[ho];simp[Op.operands,hk]);have key:∃a:Option Addr,ac.eval ox=.pointer a/\RepV ph ρ v (.bool (a.isNone^^ne)):=by
       rcases hv with⟨ex,rfl⟩|⟨⟨cs,off,ex⟩|⟨b,o',ex⟩|⟨s,b,i,o',ex⟩,rfl⟩
       · rw[ex]at r1;simp only[RepV,RepC,RepD]at r1;exact⟨none,r1,by simp[RepV,RepC,RepD]⟩
       · rw[ex]at r1;simp only[RepV,RepC,RepD]at r1;obtain⟨B,o',e1,_⟩:=r1;exact⟨_,e1,by simp[RepV,RepC,RepD]⟩
       · rw[ex]at r1;simp only[RepV,RepC]at r1;obtain⟨p,_,e1⟩:=r1;exact⟨_,e1,by simp[RepV,RepC,RepD]⟩
       · rw[ex]at r1;simp only[RepV,RepC]at r1;obtain⟨p,_,e1⟩:=r1;exact⟨_,e1,by simp[RepV,RepC,RepD]⟩
     obtain⟨a,e1,e2⟩:=key;refine⟨.bool (a.isNone^^ne),?_,e2⟩;unfold execOp;rw[ho];refine dz (a:=.bool (a.isNone^^ne)) ?_ (dx _);show fe P (do eqGuard op T ox (.const (.pointer none)) (ac.eval ox) (.pointer none);binOp op T (ac.eval ox) (.pointer none)) w _ w;rw[e1];refine dz (a:=()) (w':=w) ?_ ?_
     · unfold eqGuard;split<;>exact dx _
     · show(binOp op T _ _).run P w=_;have hrun:=zeL hu w a;cases ne
       · simp only[au,if_false]at hop;subst hop;show(do pure (Value.bool (<-Op.equal T (.pointer a) (.pointer none))):Sem Value).run P w=_;rw[Sem.run_bind,hrun];simp
       · simp only[if_true]at hop;subst hop;show(do pure (Value.bool (!(<-Op.equal T (.pointer a) (.pointer none)))):Sem Value).run P w=_;rw[Sem.run_bind,hrun];simp
   · cases ht
 · cases hy
def Qo{ph:PH}{ρ:RM}{k:IntKind}{a b:Int}{u v:Value}{mx:Bool}(r1:RepV ph ρ (.c (.d (.int k a))) u)(r2:RepV ph ρ (.c (.d (.int k b))) v):RepV ph ρ (.c (.d (.int k (yR mx a b)))) (.int k (yR mx a b)):=by
 simp only[RepV,RepC,RepD]at r1 r2⊢;refine⟨trivial,?_⟩;unfold yR;split<;>split<;>first|exact r1.2|exact r2.2
def zfG{o:Oper}{c:Call}{mx:Bool}{x y:MX}(ho:o.op=.call c)(hc:gY P (.minI mx x y) (.call c)=true){k:IntKind}{a b:Int}(ex:X get x=.c (.d (.int k a)))(ey:X get y=.c (.d (.int k b))):
   gz P o get m [] [] (.c (.d (.int k (yR mx a b)))):=by
 simp only[gY]at hc;split at hc
 · rename_i ox oy hb ha;simp only[aC,bg]at hc;obtain⟨⟨hm,hx⟩,hy⟩:=hc;have hargs:c.args=#[ox,oy]:=by rw[<-bE (xs:=c.args),ha]
   refine gz.of_pure λm' h1 ph ρ w ac hr hg=>?_;have r1:=jF hx (ph:=ph) (ρ:=ρ) (get:=get) (a:=ac) λk hk=>hg k (by rw[ho];simp[Op.operands,Call.operands,hb,hargs,hk]);have r2:=jF hy (ph:=ph) (ρ:=ρ) (get:=get) (a:=ac) λk hk=>hg k (by rw[ho];simp[Op.operands,Call.operands,hb,hargs,hk]);rw[ex]at r1;rw[ey]at r2;refine⟨.int k (yR mx a b),?_,Qo r1 r2⟩;simp only[RepV,RepC,RepD]at r1 r2;unfold execOp;rw[ho];show fe P (do let d<-resolve ac.eval c o.type;invoke d.target d.args) w _ w;unfold resolve;rw[hb,hargs];refine(dx _).bind ?_;simp only[invoke,List.map_toArray,List.map_cons,List.map_nil];refine dz (a:=.int k (yR mx a b)) ?_ (dx _);rw[r1.1,r2.1,hm];exact dx _
 · rename_i ox oy hb ha;simp only[aC]at hc;obtain⟨⟨hm,hx⟩,hy⟩:=hc;have hargs:c.args=#[ox,oy]:=by rw[<-bE (xs:=c.args),ha]
   refine gz.of_pure λm' h1 ph ρ w ac hr hg=>?_;have r1:=jF hx (ph:=ph) (ρ:=ρ) (get:=get) (a:=ac) λk hk=>hg k (by rw[ho];simp[Op.operands,Call.operands,hb,hargs,hk]);have r2:=jF hy (ph:=ph) (ρ:=ρ) (get:=get) (a:=ac) λk hk=>hg k (by rw[ho];simp[Op.operands,Call.operands,hb,hargs,hk]);rw[ex]at r1;rw[ey]at r2;refine⟨.int k (yR mx a b),?_,Qo r1 r2⟩;simp only[RepV,RepC,RepD]at r1 r2;unfold execOp;rw[ho];show fe P (do let d<-resolve ac.eval c o.type;invoke d.target d.args) w _ w;unfold resolve;rw[hb,hargs];refine(dx _).bind ?_;simp only[invoke,List.map_toArray,List.map_cons,List.map_nil];refine dz (a:=.int k (yR mx a b)) ?_ (dx _);rw[r1.1,r2.1,hm];exact dx _
 · cases hc
end
end Go.Abs
namespace Go.Abs
variable [jQ]
def DW:∀(n d:Nat),(gT n d).length=d
|_,0=>rfl
|n,d+1=>by simp[gT,DW (n+1) d]
def DX:∀(n d j:Nat),j<d->(gT n d)[j]?=some (n+j)
|n,d+1,0,_=>by simp[gT]
|n,d+1,j+1,h=>by
 simp only[gT,List.getElem?_cons_succ];rw[DX (n+1) d j (by omega)];congr 1;omega
def Hm{n d x:Nat}(h:x∈gT n d):n<=x/\x<n+d:=by
 obtain⟨j,hj,rfl⟩:=dQ h;rw[DW]at hj;have:=DX n d j hj;rw[aD (by rw[DW];exact hj)]at this;simp only[aO]at this;omega
def Ho:∀(n d:Nat),(gT n d).Nodup
|_,0=>by simp[gT]
|n,d+1=>by
 simp only[gT,dL];exact⟨λh=>by have:=Hm h;omega,Ho (n+1) d⟩
def KT{m:Hp}:∀{n d:Nat},uJ m n d->∀j,j<d->m (n+j)=.non
|n,d+1,h,0,_=>h.1
|n,d+1,h,j+1,hj=>by
 have:=KT h.2 j (by omega);rwa[show n+1+j=n+(j+1) by omega]at this
def A9{m:Hp}{f:Nat->Nat}:∀{js:List Nat} {bs:List Blk},oN m f js bs->js.length=bs.length/\∀i,i<js.length->m (js.getD i 0)=(hpOf bs i).ren f
|[],[],_=>⟨rfl,λi hi=>by simp at hi⟩
|[],_::_,h=>by simp[oN]at h
|_::_,[],h=>by simp[oN]at h
|j::js,b::bs,h=>by
 simp only[oN]at h;obtain⟨h1,h2⟩:=A9 h.2;refine⟨by simp[h1],λi hi=>?_⟩;cases i with
 |zero=>simpa[hpOf]using h.1
 |succ i=>simpa[hpOf]using h2 i (by simpa using hi)
def KU{f:Nat->Nat}:∀{js:List Nat} {bs:List Blk} {m:Hp} {b:Nat},b∉js->jc m (ni f js bs) b=m b
|[],_,m,b,_=>by simp[ni,jc]
|_::_,[],m,b,_=>by simp[ni,jc]
|j::js,x::bs,m,b,h=>by
 simp only[aS,not_or]at h;simp only[ni,jc];have:=KU (f:=f) (js:=js) (bs:=bs) (m:=upd m j (x.ren f)) h.2;rw[this,zah _ _ h.1]
def Qp{f:Nat->Nat}:∀{js:List Nat} {bs:List Blk} {m:Hp},js.Nodup->js.length=bs.length->∀i,i<js.length->jc m (ni f js bs) (js.getD i 0)=(hpOf bs i).ren f
|[],_,m,_,_,i,hi=>by simp at hi
|_::_,[],m,_,h,_,_=>by simp at h
|j::js,x::bs,m,hn,h,0,hi=>by
 simp only[dL]at hn;simp only[ni,jc,List.getD_cons_zero];rw[KU hn.1,zae];simp[hpOf]
|j::js,x::bs,m,hn,h,i+1,hi=>by
 simp only[dL]at hn;simp only[ni,jc,List.getD_cons_succ];rw[Qp hn.2 (by simpa using h) i (by simpa using hi)];simp[hpOf]
def KV{f:Nat->Nat}:∀{js:List Nat} {bs:List Blk},js.length=bs.length->∀j,j∈js->∃b,(j,b)∈ni f js bs
| j::js,x::bs,h,k,hk=>by
 cases aS.1 hk with
 |inl e=>subst e;exact⟨x.ren f,by simp[ni]⟩
 |inr e=>
  obtain⟨b,hb⟩:=KV (f:=f) (js:=js) (bs:=bs) (by simpa using h) k e;exact⟨b,by simp[ni,hb]⟩
section
variable {P:Program} {get:Nat->AV} {m:Hp} {n:Nat}
def HRel.sub{h:PH}{ρ:RM}{m:Hp}{w:Heap}{l:List Nat}{bs:List Blk}(H:HRel h ρ m w)(hnd:l.Nodup)(hlt:∀b,b∈bs->b.lt l.length=true)(hat:oN m (gm l) l bs):HRel h (nz (gm l) l.length ρ) (hpOf bs) w:=by
 obtain⟨hlen,hb⟩:=A9 hat;have at_:∀b,b<l.length->m (gm l b)=(hpOf bs b).ren (gm l):=λb hbl=>hb b hbl;have inj:∀b c,b<l.length->c<l.length->gm l b=gm l c->b=c:=by
  intro b c h1 h2 e;unfold gm at e;rw[aF,aF,aD h1,aD h2]at e;simp only[Option.getD_some]at e;exact(List.getElem?_inj h1 hnd).1 (by rw[aD h1,aD h2,e])
 have beyond:∀b,¬b<l.length->hpOf bs b=.non:=by
  intro b hb';unfold hpOf;rw[aF,aM (by omega)];rfl
 have rs:∀{b:Nat} {p:Nat × Nat},nz (gm l) l.length ρ b=some p->b<l.length/\ρ (gm l b)=some p:=by
  intro b p h;unfold nz at h;split at h
  ·exact⟨by assumption,h⟩
  ·cases h
 have mem:∀b,b<l.length->(hpOf bs b).lt l.length=true:=by
  intro b hb';unfold hpOf;rw[aF,aD (by omega)];exact hlt _ (ai _)
 refine⟨H.pers,?_,?_,?_,?_⟩
 ·intro b;unfold nz;by_cases hbl:b<l.length
  ·rw[aB hbl,<-H.dom,at_ b hbl];cases hpOf bs b<;>simp[Blk.ren]
  ·rw[aA hbl];simp[beyond b hbl]
 ·intro b p hp';obtain⟨h1,h2⟩:=rs hp';have:=H.own _ p h2;rw[at_ b h1]at this;exact zaj.ren (mem b h1) this
 ·intro b c' p q h1 h2 hr hs e;obtain⟨g1,g2⟩:=rs h1;obtain⟨g3,g4⟩:=rs h2;refine inj b c' g1 g3 (H.inj _ _ p q g2 g4 ?_ ?_ e)
  ·rw[at_ b g1];exact Real.ren.2 hr
  ·rw[at_ c' g3];exact Real.ren.2 hs
 ·intro b p h1 hr;obtain⟨g1,g2⟩:=rs h1;exact H.sep _ p g2 (by rw[at_ b g1];exact Real.ren.2 hr)
def jm.sub{ρ:RM}{m:Hp}{l:List Nat}{bs:List Blk}(hat:oN m (gm l) l bs){B:Nat}(hf:jm ρ m B):jm (nz (gm l) l.length ρ) (hpOf bs) B:=by
 intro b p hp hr;unfold nz at hp;split at hp
 ·rename_i hb;exact hf _ p hp (by rw[show m (gm l b)=_ from(A9 hat).2 b hb];exact Real.ren.2 hr)
 ·cases hp
def Qq{l:List Nat}{bs bs':List Blk}{m':Hp}{ph h':PH}{ρ ρ':RM}{w w':Heap}(hle:bs.length<=bs'.length)(hbl:∀b,b∈bs'->b.lv (live bs')=true)(hnd:l.Nodup)(hln:∀i,i∈l->i<n)
  (hk:l.length=bs.length) (hatm:oN m' (gm l) l bs) (hfrm:∀j,j<bs'.length-bs.length->m' (n+j)=.non) (hr:HRel ph ρ m' w) (st:ng ph (nz (gm l) l.length ρ) (hpOf bs) w h' ρ' (hpOf bs') w') (hr':HRel h' ρ' (hpOf bs') w')
  (pins:∀i,i<bs.length->ρ' i=nz (gm l) l.length ρ i):
  ∃ρ2,Step ph ρ m' w h' ρ2 (jc m' (ni (gm (l++gT n (bs'.length-bs.length))) (l++gT n (bs'.length-bs.length)) bs')) w'/\HRel h' ρ2 (jc m' (ni (gm (l++gT n (bs'.length-bs.length))) (l++gT n (bs'.length-bs.length)) bs')) w'/\
   ∀(v:AV) (vC:Value),v.lv (live bs')=true->RepV h' ρ' v vC->RepV h' ρ2 (v.ren (gm (l++gT n (bs'.length-bs.length)))) vC:=by
 generalize hd:bs'.length-bs.length=d at*
 have hlen':(l++gT n d).length=bs'.length:=by rw[aR,DW];omega
 have hnd':(l++gT n d).Nodup:=by
  rw[bz];refine⟨hnd,Ho n d,λa ha b hb e=>?_⟩;have:=hln a ha;have:=Hm hb;omega
 -- the caller's own numbers
 have inl:∀i,i<l.length->gm (l++gT n d) i=gm l i:=by
  intro i hi;unfold gm;rw[aF,aF,ay hi]
 have inr:∀j,j<d->gm (l++gT n d) (l.length+j)=n+j:=by
  intro j hj;unfold gm;rw[aF,bC (by omega),bX,DX n d j hj];rfl
 have lmem:∀i,i<l.length->gm l i∈l:=by
  intro i hi;unfold gm;rw[aF,aD hi];exact ai hi
 let ρ2:RM:=λb=>if n<=b/\b<n+d then ρ' (l.length+(b-n))else ρ b;let m2:Hp:=jc m' (ni (gm (l++gT n d)) (l++gT n d) bs');have m2in:∀i,i<bs'.length->m2 (gm (l++gT n d) i)=(hpOf bs' i).ren (gm (l++gT n d)):=λi hi=>Qp hnd' hlen' i (by omega);have m2out:∀b,b∉l++gT n d->m2 b=m' b:=λb hb=>KU hb;have r2:∀i,i<bs'.length->ρ2 (gm (l++gT n d) i)=ρ' i:=by
  intro i hi;by_cases hil:i<l.length
  ·rw[inl i hil];have hlt:=hln _ (lmem i hil);show(if n<=gm l i/\gm l i<n+d then _ else ρ (gm l i))=_;rw[aA (by omega),pins i (by omega)];unfold nz;rw[aB hil]
  ·obtain⟨j,rfl⟩:∃j,i=l.length+j:=⟨i-l.length,by omega⟩
   rw[inr j (by omega)];show(if n<=n+j/\n+j<n+d then ρ' (l.length+(n+j-n))else _)=_;rw[aB (by omega),bX]
 have r2out:∀b,b∉l++gT n d->ρ2 b=ρ b:=by
  intro b hb;show(if n<=b/\b<n+d then _ else ρ b)=_;rw[aA];intro hh;refine hb (aU.2 (.inr ?_));have:=DX n d (b-n) (by omega);rw[show n+(b-n)=b by omega]at this;exact aW this
 have cases_:∀b,b∉l++gT n d\/∃i,i<bs'.length/\b=gm (l++gT n d) i:=by
  intro b;by_cases hb:b∈l++gT n d
  ·obtain⟨i,hi,e⟩:=dQ hb;refine .inr ⟨i,by omega,?_⟩;unfold gm;rw[aF,aD hi];exact e.symm
  ·exact .inl hb
 have rle:ρ.le ρ2:=by
  intro b p hb;rcases cases_ b with h|⟨i,hi,rfl⟩
  ·rw[r2out b h];exact hb
  ·rw[r2 i hi];by_cases hil:i<l.length
   ·rw[pins i (by omega)];unfold nz;rw[aB hil];rwa[inl i hil]at hb
   ·obtain⟨j,rfl⟩:∃j,i=l.length+j:=⟨i-l.length,by omega⟩
    rw[inr j (by omega),(hr.dom _).1 (hfrm j (by omega))]at hb;cases hb
 have mvH:∀b q,live bs' b=true->ρ' (id b)=some q->ρ2 (gm (l++gT n d) b)=some q:=by
  intro b q hb hq;have:b<bs'.length:=by
   unfold live at hb;rcases aX b bs'.length with h|h
   ·exact h
   ·rw[aM h]at hb;cases hb
  rw[r2 b this];exact hq
 -- what lies outside is not touched
 have freeOut:∀b p,b∉l++gT n d->ρ b=some p->Real (m' b) p->jm (nz (gm l) l.length ρ) (hpOf bs) p.1:=by
  intro b p hb hp' hreal c q hcq hrq he;unfold nz at hcq;split at hcq
  ·rename_i hcl;have hmc:m' (gm l c)=(hpOf bs c).ren (gm l):=(A9 hatm).2 c hcl;have:=hr.inj (gm l c) b q p hcq hp' (by rw[hmc];exact Real.ren.2 hrq) hreal he;exact hb (this▸aU.2 (.inl (lmem c hcl)))
  ·cases hcq
 have freeSub:∀B,jm ρ m' B->jm (nz (gm l) l.length ρ) (hpOf bs) B:=by
  intro B hB c q hcq hrq he;unfold nz at hcq;split at hcq
  ·rename_i hcl;have hmc:m' (gm l c)=(hpOf bs c).ren (gm l):=(A9 hatm).2 c hcl;exact hB (gm l c) q hcq (by rw[hmc];exact Real.ren.2 hrq) he
  ·cases hcq
 have K2:HRel h' ρ2 m2 w':=by
  refine⟨hr'.pers,?_,?_,?_,?_⟩
  ·intro b;rcases cases_ b with h|⟨i,hi,rfl⟩
   ·rw[m2out b h,r2out b h];exact hr.dom b
   ·rw[m2in i hi,r2 i hi,<-hr'.dom];cases hpOf bs' i<;>simp[Blk.ren]
  ·intro b p hb;rcases cases_ b with h|⟨i,hi,rfl⟩
   ·rw[r2out b h]at hb;rw[m2out b h];by_cases hreal:Real (m' b) p
    ·exact zaj.congr st.hle rle (st.frame p.1 (hr.real_lt hb hreal) (freeOut b p h hb hreal)) (hr.own b p hb)
    ·exact zaj.notReal hreal (hr.own b p hb) _ rle _
   ·rw[r2 i hi]at hb;rw[m2in i hi];have:=hr'.own i p hb;have hmem:hpOf bs' i∈bs':=by
     unfold hpOf;rw[aF,aD hi];exact ai hi
    refine zaj.mv (f:=id) mvH (hbl _ hmem) ?_;rw[Blk.ren_id];exact this
  ·intro b c p q hb hc' hrb hrc he;rcases cases_ b with h|⟨i,hi,rfl⟩<;>rcases cases_ c with k|⟨j,hj,rfl⟩
   ·rw[r2out b h]at hb;rw[r2out c k]at hc';rw[m2out b h]at hrb;rw[m2out c k]at hrc;exact hr.inj b c p q hb hc' hrb hrc he
   ·exfalso;rw[r2out b h]at hb;rw[m2out b h]at hrb;rw[r2 j hj]at hc';rw[m2in j hj]at hrc;rcases st.own j q hc' (Real.ren.1 hrc)with h3|⟨c'',q'',h3,h4,h5⟩
    ·have:=hr.real_lt hb hrb;omega
    ·exact freeOut b p h hb hrb c'' q'' h3 h4 (h5.trans he.symm)
   ·exfalso;rw[r2out c k]at hc';rw[m2out c k]at hrc;rw[r2 i hi]at hb;rw[m2in i hi]at hrb;rcases st.own i p hb (Real.ren.1 hrb)with h3|⟨c'',q'',h3,h4,h5⟩
    ·have:=hr.real_lt hc' hrc;omega
    ·exact freeOut c q k hc' hrc c'' q'' h3 h4 (h5.trans he)
   ·rw[r2 i hi]at hb;rw[r2 j hj]at hc';rw[m2in i hi]at hrb;rw[m2in j hj]at hrc;rw[hr'.inj i j p q hb hc' (Real.ren.1 hrb) (Real.ren.1 hrc) he]
  ·intro b p hb hrb;rcases cases_ b with h|⟨i,hi,rfl⟩
   ·rw[r2out b h]at hb;rw[m2out b h]at hrb;rw[st.hlow p.1 (hr.real_lt hb hrb) (freeOut b p h hb hrb)];exact hr.sep b p hb hrb
   ·rw[r2 i hi]at hb;rw[m2in i hi]at hrb;exact hr'.sep i p hb (Real.ren.1 hrb)
 have S2:Step ph ρ m' w h' ρ2 m2 w':=by
  refine⟨st.hle,λB hB hf=>st.hlow B hB (freeSub B hf),rle,st.size,λB hB hf=>st.frame B hB (freeSub B hf),?_⟩;intro b p hb hrb;rcases cases_ b with h|⟨i,hi,rfl⟩
  ·rw[r2out b h]at hb;rw[m2out b h]at hrb;exact .inr ⟨b,p,hb,hrb,rfl⟩
  ·rw[r2 i hi]at hb;rw[m2in i hi]at hrb;rcases st.own i p hb (Real.ren.1 hrb)with h3|⟨c,q,h3,h4,h5⟩
   ·exact .inl h3
   ·unfold nz at h3;split at h3
    ·rename_i hcl;have hmc:m' (gm l c)=(hpOf bs c).ren (gm l):=(A9 hatm).2 c hcl;exact .inr ⟨gm l c,q,h3,by rw[hmc];exact Real.ren.2 h4,h5⟩
    ·cases h3
 refine⟨ρ2,S2,K2,λv vC hvl rv=>?_⟩;refine RepV.mv (f:=id) mvH v vC hvl ?_;rw[AV.ren_id];exact rv
def Qr{o:Oper}{f:FuncId}{l:List Nat}{args:List AV}{bs:List Blk}{v:AV}{bs':List Blk}(hp:MCall P f args bs v bs')(hnd:l.Nodup)(hln:∀i,i∈l->i<n)(hal:AV.lts l.length args=true)
  (hlt:∀b,b∈bs->b.lt l.length=true) (hat:oN m (gm l) l bs) (hfr:uJ m n (bs'.length-bs.length))
  (H:∀(ph:PH) (ρ:RM) (w:World) (a:Act),(∀k,Operand.tmp k∈o.op.operands->RepV ph ρ (get k) (a.tmps.getD k undef))->
   ∃argsC:List Value,zad ph ρ (AV.rens (gm l) args) argsC/\fe P (execOp a.eval o) w (.enter f argsC.toArray) w):
  gz P o get m [] (ni (gm (l++gT n (bs'.length-bs.length))) (l++gT n (bs'.length-bs.length)) bs') (v.ren (gm (l++gT n (bs'.length-bs.length)))):=by
 intro m' h1 h2 ph ρ w a hr hG hS hg next Q hn;obtain⟨hcal,hle,hnon,hvl,hbl,hp⟩:=hp;obtain⟨hk,hat'⟩:=A9 hat;generalize hd:bs'.length-bs.length=d at*
 have hlen':(l++gT n d).length=bs'.length:=by rw[aR,DW];omega
 have hnd':(l++gT n d).Nodup:=by
  rw[bz];refine⟨hnd,Ho n d,λa ha b hb e=>?_⟩;have:=hln a ha;have:=Hm hb;omega
 have agree:∀j,j∈l++gT n d->m' j=m j:=λj hj=>by
  obtain⟨b,hb⟩:=KV (f:=gm (l++gT n d)) hlen' j hj;exact h2 (j,b) hb
 have hatm:oN m' (gm l) l bs:=by
  have:∀(js:List Nat) (bs:List Blk),(∀j,j∈js->m' j=m j)->oN m (gm l) js bs->oN m' (gm l) js bs:=by
   intro js
   induction js with
   |nil=>intro bs _ h;cases bs<;>first|exact h|exact h.elim
   | cons j js ih=>
    intro bs hj h;cases bs with
    |nil=>exact h.elim
    |cons b bs=>
     simp only[oN]at h⊢;exact⟨(hj j (by simp)).trans h.1,ih bs (λk hk=>hj k (by simp[hk])) h.2⟩
  exact this l bs (λj hj=>agree j (by simp[hj])) hat
 have hfrm:∀j,j<d->m' (n+j)=.non:=λj hj=>by
  rw[agree (n+j) (by
   rw[aU]
   exact .inr (aW (DX n d j hj)))]
  exact KT hfr j hj
 obtain⟨argsC,ra,hrun⟩:=H ph ρ w a hg;have hc:=hr.sub hnd hlt hatm;have hra:=zad.ren args argsC hal ra;unfold Oper.wp;rw[show(execOp a.eval o).run P w=.ok (.enter f argsC.toArray) w from hrun];rw[Oper.upon_enter];refine(hp ph _ w argsC hc hG (jQ.mono hS (eZ _) (aK _) λB _ hf=>⟨rfl,rfl,hf.sub hatm⟩) hra).mono λe w' hh=>?_;obtain⟨vC,h',ρ',e1,st,hr',e7,rv,pins⟩:=hh;subst e1;subst hd;obtain⟨ρ2,S2,K2,mv⟩:=Qq hle hbl hnd hln (by omega) hatm hfrm hr st hr' pins;exact hn h' ρ2 w' vC S2 K2 e7 (mv v vC hvl rv)
def Hq(P:Program)(o:Oper)(get:Nat->AV)(m:Hp)(wr:List (Nat × Blk))(pv:Value):Prop:=
∀ m':Hp,(∀x,x∈wr->m' x.1=m x.1)->∀(h:PH) (ρ:RM) (w:World) (a:Act),HRel h ρ m' w.heap->Gnd P h->jQ.ok h (jm ρ m') w->
 (∀k,Operand.tmp k∈o.op.operands->RepV h ρ (get k) (a.tmps.getD k undef))->
 ∀(next:Act->World->Prop) (Q:Exit->Act->World->Prop),
  (∀(h':PH) (ρ':RM) (w':World),Step h ρ m' w.heap h' ρ' (jc m' wr) w'.heap->HRel h' ρ' (jc m' wr) w'.heap->Same w w'->Q (.panic [{v:=pv,recovered:=false}]) a w')->
  o.wp P a w next Q
def Qs{o:Oper}{f:FuncId}{l:List Nat}{args:List AV}{bs:List Blk}{pv:Value}{bs':List Blk}(hp:om P f args bs pv bs')(hnd:l.Nodup)(hln:∀i,i∈l->i<n)(hal:AV.lts l.length args=true)
  (hlt:∀b,b∈bs->b.lt l.length=true) (hat:oN m (gm l) l bs) (hfr:uJ m n (bs'.length-bs.length))
  (H:∀(ph:PH) (ρ:RM) (w:World) (a:Act),(∀k,Operand.tmp k∈o.op.operands->RepV ph ρ (get k) (a.tmps.getD k undef))->
   ∃argsC:List Value,zad ph ρ (AV.rens (gm l) args) argsC/\fe P (execOp a.eval o) w (.enter f argsC.toArray) w):
  Hq P o get m (ni (gm (l++gT n (bs'.length-bs.length))) (l++gT n (bs'.length-bs.length)) bs') pv:=by
 intro m' h2 ph ρ w a hr hG hS hg next Q hn;obtain⟨hcal,hle,hnon,hbl,hp⟩:=hp;obtain⟨hk,hat'⟩:=A9 hat;generalize hd:bs'.length-bs.length=d at*
 have hlen':(l++gT n d).length=bs'.length:=by rw[aR,DW];omega
 have hnd':(l++gT n d).Nodup:=by
  rw[bz];refine⟨hnd,Ho n d,λa ha b hb e=>?_⟩;have:=hln a ha;have:=Hm hb;omega
 have agree:∀j,j∈l++gT n d->m' j=m j:=λj hj=>by
  obtain⟨b,hb⟩:=KV (f:=gm (l++gT n d)) hlen' j hj;exact h2 (j,b) hb
 have hatm:oN m' (gm l) l bs:=by
  have:∀(js:List Nat) (bs:List Blk),(∀j,j∈js->m' j=m j)->oN m (gm l) js bs->oN m' (gm l) js bs:=by
   intro js
   induction js with
   |nil=>intro bs _ h;cases bs<;>first|exact h|exact h.elim
   | cons j js ih=>
    intro bs hj h;cases bs with
    |nil=>exact h.elim
    |cons b bs=>
     simp only[oN]at h⊢;exact⟨(hj j (by simp)).trans h.1,ih bs (λk hk=>hj k (by simp[hk])) h.2⟩
  exact this l bs (λj hj=>agree j (by simp[hj])) hat
 have hfrm:∀j,j<d->m' (n+j)=.non:=λj hj=>by
  rw[agree (n+j) (by
   rw[aU]
   exact .inr (aW (DX n d j hj)))]
  exact KT hfr j hj
 obtain⟨argsC,ra,hrun⟩:=H ph ρ w a hg;have hc:=hr.sub hnd hlt hatm;have hra:=zad.ren args argsC hal ra;unfold Oper.wp;rw[show(execOp a.eval o).run P w=.ok (.enter f argsC.toArray) w from hrun];rw[Oper.upon_enter];refine(hp ph _ w argsC hc hG (jQ.mono hS (eZ _) (aK _) λB _ hf=>⟨rfl,rfl,hf.sub hatm⟩) hra).mono λe w' hh=>?_;obtain⟨h',ρ',e1,st,hr',e7,pins⟩:=hh;subst e1;subst hd;obtain⟨ρ2,S2,K2,mv⟩:=Qq hle hbl hnd hln (by omega) hatm hfrm hr st hr' pins;exact hn h' ρ2 w' S2 K2 e7
end
end Go.Abs
