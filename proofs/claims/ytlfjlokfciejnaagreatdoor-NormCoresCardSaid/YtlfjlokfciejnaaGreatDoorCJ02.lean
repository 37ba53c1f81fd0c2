/- Texts of ours, joined and written short by a program of ours. -/
import Derived.Test.YtlfjlokfciejnaaGreatDoorCJ01
set_option maxRecDepth 20000
set_option maxHeartbeats 4000000
set_option linter.unusedVariables false
set_option linter.unusedSimpArgs false
namespace Go.Abs
theorem Rf(n:Nat):∀(r c:Nat),Builtin.growBy n r c<=max c (n+(n+768)/4)
|0,c=>by simp only[Builtin.growBy];omega
| r+1,c=>by
 simp only[Builtin.growBy];split
 ·omega
 ·have:=Rf n r (c+(c+768)/4);have h2:c+(c+768)/4<=n+(n+768)/4:=by omega
  omega
theorem nextslicecap_le{n c:Nat}(h:c<n):Builtin.nextslicecap n c<=2*n+400:=by
 unfold Builtin.nextslicecap;split
 ·omega
 ·split
  ·omega
  ·have:=Rf n 4 c;omega
section
variable {P:Program} {get:Nat->AV} {m:Hp} {n:Nat}
theorem IL{T T' ty e:TypeId}{i:TypeInfo}{d':TypeDesc}{base:Option Addr}{sLen sCap k:Nat}{x:Value}{w w':World}{new:Array Value}(hu:P.underlying T=some (.slice e))(hi:P.info? e=some i)
  (hu':P.underlying T'=some d') (hnot:∀k,d'≠.int k) (hn:iA P (Builtin.lenOf x) w k w) (hle:sLen+k<=sCap) (hnew:iA P (Builtin.firstCells i.size k x) w new w)
  (hst:∀a,base=some a->iA P (storeCells (a.add (sLen*i.size)) new.toList) w () w') (hst':base=none->w'=w):
  iA P (Builtin.append_ #[T,T'] ty #[.slice base sLen sCap,x]) w (.slice base (sLen+k) sCap) w':=by
 unfold Builtin.append_
 show iA P (do
  let d<-underlying T
  _) w _ w'
 refine(fZ hu).bind ((gF hi).bind ?_);dsimp only[show(#[T,T']:Array TypeId)[1]?=some T' from rfl];refine(fZ hu').bind ?_;refine fM (a:=false) (w':=w) ?_ ?_
 ·cases d'<;>first|exact fK _|exact absurd rfl (hnot _)
 rw[aB (by simp)];refine fM hn ?_;rw[aC hle];refine fM hnew ?_;cases base with
 |none=>
  rw[hst' rfl];exact fK _
 |some a=>
  exact(hst a rfl).bind (fK _)
def World.drew1(w:World):World:={w with drawn:=w.drawn+1}
theorem LH{T T' ty e:TypeId}{i:TypeInfo}{d':TypeDesc}{zv:Value}{base:Option Addr}{sLen sCap k:Nat}{x:Value}{w:World}{old new:Array Value}(hu:P.underlying T=some (.slice e))(hi:P.info? e=some i)
  (hz:i.zero=some zv) (hu':P.underlying T'=some d') (hnot:∀k,d'≠.int k) (hn:iA P (Builtin.lenOf x) w k w) (hgt:sCap<sLen+k) (hb:(sLen+k)*i.bytes<=70368744177664) (hb0:0<i.bytes) (hb1:i.bytes<=1073741824)
  (hold:iA P (Builtin.firstCells i.size sLen (.slice base sLen sCap)) (World.drew1 w) old (World.drew1 w)) (hnew:iA P (Builtin.firstCells i.size k x) (World.drew1 w) new (World.drew1 w)):
  ∃newCap,sLen+k<=newCap/\iA P (Builtin.append_ #[T,T'] ty #[.slice base sLen sCap,x]) w (.slice (some ⟨w.heap.size,0,none⟩) (sLen+k) newCap)
   {World.drew1 w with heap:=w.heap.push (.cells (old++new++Builtin.zeroCells zv.cells (newCap-(sLen+k))) e)}:=by
 have hneed:sLen+k<=70368744177664:=by
  have:(sLen+k)*1<=(sLen+k)*i.bytes:=Nat.mul_le_mul_left _ hb0;omega
 let q:Question:=.appendCap (sLen+k) sCap e;refine⟨q.cut (w.tape w.drawn q),?_,?_⟩
 ·show sLen+k<=(Question.appendCap (sLen+k) sCap e).cut _;simp only[Question.cut];omega
 unfold Builtin.append_;refine(fZ hu).bind ((gF hi).bind ?_);dsimp only[show(#[T,T']:Array TypeId)[1]?=some T' from rfl];refine(fZ hu').bind ?_;refine fM (a:=false) (w':=w) ?_ ?_
 ·cases d'<;>first|exact fK _|exact absurd rfl (hnot _)
 rw[aB (by simp)];refine fM hn ?_;rw[aB (by omega)];refine(gI hi).bind ?_;rw[aB (by
  rintro⟨_,h⟩
  rcases h with h|h
  ·cases h
  ·omega)]
 refine(gI hi).bind ?_;rw[aB (by
  have h1:=nextslicecap_le hgt;have h2:Builtin.nextslicecap (sLen+k) sCap*i.bytes<=(2*(sLen+k)+400)*i.bytes:=bn _ h1;have h3:(2*(sLen+k)+400)*i.bytes=2*((sLen+k)*i.bytes)+400*i.bytes:=by rw[bC,Nat.mul_assoc]
  omega)]
 refine fM (a:=q.cut (w.tape w.drawn q)) (w':=World.drew1 w) ?_ ?_
 ·rfl
 refine(gI hi).bind ((iA.askRoom _).bind ?_);refine hold.bind ?_;refine fM hnew ?_;refine(gG hi hz).bind ?_;unfold newRow;exact((gM _).bind (fK _)).bind (fK _)
theorem iR.one{h:PH}{ρ:RM}{s:Nat}:∀{es:List (List AC)} {vs:List Value},iR h ρ s es vs->vs.length=es.length*s->∀v,v∈vs->v.one1=true
|[],vs,_,e,v,hv=>by
 have:vs=[]:=by simpa using e
 subst this;cases hv
| e0::es,vs,r,e,v,hv=>by
 simp only[iR]at r;have hl:vs.length=s+es.length*s:=by simpa[bC,dH]using e
 rw[<-dC s vs]at hv;rcases aM.1 hv with hv|hv
 ·have:=r.2.1.take;rw[r.1]at this;exact iJ.one this (by simp;omega) v hv
 ·exact iR.one r.2.2 (by simp;omega) v hv
theorem iR.takeAll{ph:PH}{ρ:RM}{s:Nat}:∀{es:List (List AC)} {us:List Value},iR ph ρ s es us->iR ph ρ s es (us.take (es.length*s))
|[],us,_=>by simp[iR]
| e::es,us,r=>by
 simp only[iR]at r⊢;have e2:(e::es).length*s=s+es.length*s:=by simp[bC,dH]
 have hl:=r.2.1.length;refine⟨r.1,?_,?_⟩
 ·have:=r.2.1.take;rw[r.1]at this;rw[e2,List.take_add];exact this.more _
 ·rw[e2,List.take_add];rw[dN (by simp;omega),List.drop_of_length_le (by simp;omega)];simpa using iR.takeAll r.2.2
theorem LJ{s:Nat}{y:MX}{K:List (List AC)->List Nat->Prop}(hK:sZ get m s K y):∃ys rd,K ys rd/\∀{m':Hp},(∀b,b∈rd->m' b=m b)->∀{ph:PH} {ρ:RM} {w:World} {v:Value},HRel ph ρ m' w.heap->RepV ph ρ (X get y) v->
  ∃new:List Value,iA P (Builtin.lenOf v) w ys.length w/\(∀w2:World,w2.heap=w.heap->iA P (Builtin.firstCells s ys.length v) w2 new.toArray w2)/\new.length=ys.length*s/\iR ph ρ s ys new:=by
 unfold sZ at hK;split at hK
 ·rename_i fl s' ys ey;obtain⟨k1,hK⟩:=hK;subst k1;refine⟨_,_,hK,λ{m'} hm {ph ρ w v} hr rv=>?_⟩;rw[ey]at rv;simp only[RepV,RepC,RepD]at rv;obtain⟨a,cap,r1,r2,r3,r4,r5,r6,r7⟩:=rv;subst r1;have htot:=r7.total;refine⟨(cellsAt ph a).take (ys.length*s),by simp only[aU];exact fK _,?_,by simp;omega,?_⟩
  ·intro w2 hw2;simp only[aU];cases a with
   |none=>
    have:=(r5 rfl).1;subst this;simp only[Builtin.firstCells];simpa using (fK (#[]:Array Value))
   | some q=>
    obtain⟨B,off,spot⟩:=q;simp only[Builtin.firstCells];by_cases hys:ys.length=0
    ·rw[hys];simp only[bR,List.take_zero];simpa using iA.loadCells0 (P:=P) _ w2
    have:=r6 _ rfl (by omega);simp only at this;subst this;have hlen:((cellsAt ph (some ⟨B,off,none⟩)).take (ys.length*s)).length=ys.length*s:=by simp;omega
    have:=gK (P:=P) (w:=w2) (B:=B) (o:=off) (vs:=(cellsAt ph (some ⟨B,off,none⟩)).take (ys.length*s)) (λj u hj=>by
     have hj':=Dz hj;simp only[cellsAt,ay]at hj';unfold hcells at hj';cases hB:ph B with
     |none=>rw[hB]at hj';simp at hj'
     | some ob=>
      rw[hB]at hj';cases ob with
      |cells c T' fr=>
       rw[cell_of (by rw[hw2];exact hr.pers B _ hB)];simpa using hj'
      |_=>simp at hj')
    rw[hlen]at this;exact this
  ·have r8:=iR.of_E (ρ:=ρ) r7;have:=r8.takeAll;simpa using this
 ·rename_i s' b off len ey;split at hK
  ·rename_i s'' es eb;obtain⟨k1,k2,k3,hK⟩:=hK;subst k1 k2;refine⟨_,_,hK,λ{m'} hm {ph ρ w v} hr rv=>?_⟩;rw[ey]at rv;simp only[RepV,RepC]at rv;obtain⟨p,a,r1,r2,r3,r4,_⟩:=rv;subst r2;have how:=hr.own b p r1;rw[hm b (by simp),eb]at how;have hlen:((es.drop off).take len).length=len:=by simp;omega
   rw[hlen];rcases how with⟨h1,h2⟩|⟨us,U,g1,g2,g3,g5,g4⟩
   ·subst h2;have:len=0:=by simp at k3;omega
    subst this;refine⟨[],fK _,λw2 _=>?_,by simp,by simp[iR]⟩;cases a with
    |none=>exact fK _
    |some q=>simp only[Builtin.firstCells,bR];exact fK _
   ·have hm2:(off+len)*s<=p.2*s:=bn s r3;have e2:(off+len)*s=off*s+len*s:=bC ..;refine⟨(us.drop (off*s)).take (len*s),fK _,λw2 hw2=>?_,by simp;omega,?_⟩
    ·by_cases hlt:off<p.2
     ·have:=r4 hlt;subst this;simp only[Builtin.firstCells];have hl2:((us.drop (off*s)).take (len*s)).length=len*s:=by simp;omega
      have:=gK (P:=P) (w:=w2) (B:=p.1) (o:=off*s) (vs:=(us.drop (off*s)).take (len*s)) (λj u hj=>by
       have hj':=Dz hj;rw[cell_of (by rw[hw2];exact g1)]
       simpa[ay]using hj')
      rw[hl2]at this;exact this
     ·have:len=0:=by omega
      subst this;cases a with
      |none=>simp only[Builtin.firstCells,bR,List.take_zero];exact rfl
      |some q=>simp only[Builtin.firstCells,bR,List.take_zero];exact rfl
    ·have r5:=(g4.drop off).takeEs len;have:=r5.takeAll;rw[hlen]at this;exact this
  ·exact hK.elim
 ·exact hK.elim
end
end Go.Abs
namespace Go.Abs
section
variable {P:Program} {get:Nat->AV} {m:Hp} {n:Nat}
theorem iA.storeAt{B o:Nat}{us:List Value}{U:TypeId}{w:World}{vs:List Value}(hB:w.heap[B]?=some (.cells us.toArray U (0,0)))(hle:o+vs.length<=us.length)(h1:∀x,x∈vs->x.one1=true):
  iA P (Go.storeCells ⟨B,o,none⟩ vs 0) w () {w with heap:=w.heap.setIfInBounds B (.cells (Abs.splice us o vs).toArray U (0,0))}:=by
 by_cases h0:vs=[]
 ·subst h0;simp only[Abs.splice];have e:w.heap.setIfInBounds B (.cells us.toArray U (0,0))=w.heap:=by
   apply Array.ext_getElem?;intro j;by_cases hj:B=j
   ·subst hj;have hlt:B<w.heap.size:=by
     rcases aW B w.heap.size with h|h
     ·exact h
     ·rw[aj h]at hB;cases hB
    rw[dE,aC hlt,hB]
   ·rw[bS hj]
  rw[e];exact fK _
 ·have:=iA.storeCells (P:=P) o vs 0 us w hB (by simpa using hle) h1 h0;simp only[Nat.add_zero]at this;exact this
theorem iR.grown{ph:PH}{ρ:RM}{s:Nat}{es ys:List (List AC)}{us new:List Value}{len:Nat}(r:iR ph ρ s es us)(hl:len<=es.length)(r':iR ph ρ s ys new)(hn:new.length=ys.length*s)
  (hle:len*s+new.length<=us.length):iR ph ρ s (es.take len++ys) (Abs.splice us (len*s) new):=by
 rw[LC _ _ _ hle,dA];have h1:=(r.takeEs len).takeAll;have hlen:(es.take len).length=len:=by simp;omega
 rw[hlen]at h1;exact h1.append (by rw[hlen];simp;omega) (r'.more _)
theorem zk4 {o:Oper} {c:Call} {T T':TypeId} {ox oy:Operand} {s bytes:Nat} {x y:MX} (ho:o.op=.call c) (hb:c.callee=.builtin .append) (ha:c.args.toList=[ox,oy]) (hta:c.argTypes.toList=[T,T'])
  (hx:iI x ox=true) (hy:iI y oy=true) (hni:isInt P T'=false) (hsome:(P.underlying T').isSome=true) {i:TypeInfo} (hi:yT P T=some i) (c1:i.size=s) (c2:i.bytes=bytes) (c3:0<bytes) (c3':bytes<=1073741824) (c4:0<s)
  (hz:i.zero.isSome=true) (hzl:(zeroOf i).length=s) {K:AV->List Nat->List (Nat × Blk)->Prop}
  (hK:match X get x with
  |.c (.msl s' b off len)=>match m b with
   | .arr s'' es=>s=s'/\s=s''/\off=0/\len<=es.length/\m n=.non/\sZ get m s (λys rd=>(len+ys.length)*bytes<=70368744177664/\(rd=[]\/rd=[b]\/b∉rd)/\
     K (.c (.msl s n 0 (len+ys.length))) rd [(b,.dead),(n,.arr s (es.take len++ys))]) y
   |_=>False
  |.c (.d (.sl true s' []))=>m n=.non/\sZ get m s (λys rd=>ys.length*bytes<=70368744177664/\K (.c (.msl s n 0 ys.length)) rd [(n,.arr s ys)]) y
  |.c (.d (.sl true s' (e::es)))=>s=s'/\m n=.non/\sZ get m s (λys rd=>(ys=[]->K (.c (.d (.sl true s (e::es)))) rd [])/\(ys≠[]->((e::es).length+ys.length)*bytes<=70368744177664/\K (.c (.msl s n 0 ((e::es).length+ys.length))) rd [(n,.arr s ((e::es).map (·.map .d)++ys))])) y
  |_=>False):∃v rd wr,ic P o get m rd wr v/\K v rd wr:=by
 obtain⟨d',hu'⟩:=bI.1 hsome;have hnot:∀k,d'≠.int k:=by
  intro k hk;subst hk;simp[isInt,hu']at hni
 obtain⟨et,hu,hei⟩:=EB hi;obtain⟨zv,ez⟩:=bI.1 hz;have e0:zeroOf i=zv.cells.toList:=by simp[zeroOf,ez]
 have hzs:zv.cells.size=s:=by rw[e0]at hzl;simpa using hzl
 have hargs:c.args=#[ox,oy]:=by rw[<-au (xs:=c.args),ha]
 have htys:c.argTypes=#[T,T']:=by rw[<-au (xs:=c.argTypes),hta]
 -- the operation's run, out of append's
 have wrap:∀{a:Act} {w w':World} {v:Value},iA P (Builtin.append_ #[T,T'] o.type #[a.eval ox,a.eval oy]) w v w'->iA P (execOp a.eval o) w (.value v) w':=by
  intro a w w' v h;unfold execOp;rw[ho];show iA P (do let d<-resolve a.eval c o.type;invoke d.target d.args) w _ w';unfold resolve;rw[hb,hargs,htys];refine(fK _).bind ?_;simp only[invoke,List.map_toArray,List.map_cons,List.map_nil];exact h.bind (fK _)
 have ops:∀k,(ox=.tmp k\/oy=.tmp k)->Operand.tmp k∈o.op.operands:=by
  intro k hk;rw[ho];simp only[Op.operands,Call.operands,hb,hargs];rcases hk with hk|hk<;>simp[hk]
 have blen:∀{k:Nat},k*bytes<=70368744177664->k<=zah:=λ{k} h=>by
  have:k*1<=k*bytes:=Nat.mul_le_mul_left _ c3;unfold zah;omega
 -- a new block
 have fresh:∀{ph:PH} {ρ:RM} {m':Hp} {w:World} (hr:HRel ph ρ m' w.heap) (hn:m' n=.non) {es ys:List (List AC)} {oldl newl:List Value} {k newCap:Nat} (h1:iR ph ρ s es oldl) (h2:oldl.length=es.length*s)
   (h3:iR ph ρ s ys newl) (h4:newl.length=ys.length*s) (hk:es.length+ys.length=k) (hcap:k<=newCap) (hkl:k<=zah),
   HRel ph (upd ρ n (some (w.heap.size,newCap))) (upd m' n (.arr s (es++ys))) (w.heap.push (.cells (oldl.toArray++newl.toArray++Builtin.zeroCells zv.cells (newCap-k)) et))/\
   Step ph ρ m' w.heap ph (upd ρ n (some (w.heap.size,newCap))) (upd m' n (.arr s (es++ys))) (w.heap.push (.cells (oldl.toArray++newl.toArray++Builtin.zeroCells zv.cells (newCap-k)) et)):=by
  intro ph ρ m' w hr hn es ys oldl newl k newCap h1 h2 h3 h4 hk hcap hkl;refine hr.pushO _ hn newCap (blk:=.arr s (es++ys)) (by simp) (.inr ⟨oldl++newl++(Builtin.zeroCells zv.cells (newCap-k)).toList,et,?_,?_,?_,?_,?_⟩)
  ·rw[Dr];congr 2;apply dD;simp
  ·have hzc:(Builtin.zeroCells zv.cells (newCap-k)).toList.length=(newCap-k)*s:=by simp[Builtin.zeroCells,hzs]
   rw[aX,aX,hzc,h2,h4,<-bC,<-bC];congr 1;omega
  ·simp;omega
  ·simp;omega
  ·have rle:=CY (ρ:=ρ) (p:=(w.heap.size,newCap)) ((hr.dom n).1 hn);have:=(h1.append h2 h3).more (Builtin.zeroCells zv.cells (newCap-k)).toList;exact iR.mono (fu ph) rle _ _ this
 split at hK
 ·rename_i s' b off len ex;split at hK
  ·rename_i s'' es eb;obtain⟨k1,k2,k3,k4,hn,hK⟩:=hK;subst k1 k2 k3;obtain⟨ys,rd,⟨hbnd,hrd,kk⟩,hsrc⟩:=LJ (P:=P) hK;refine⟨_,_,_,ic.of_value λm' h1 h2 ph ρ w a hr hg=>?_,kk⟩;have r1:=jf hx (ph:=ph) (ρ:=ρ) (get:=get) (a:=a) λk hk=>hg k (ops k (.inl hk));have r2:=jf hy (ph:=ph) (ρ:=ρ) (get:=get) (a:=a) λk hk=>hg k (ops k (.inr hk));have eb':m' b=.arr s es:=(h2 (b,.dead) (by simp)).trans eb;have hn':m' n=.non:=(h2 (n,.arr s (es.take len++ys)) (by simp)).trans hn;have hnb:n≠b:=λhh=>by subst hh;rw[eb']at hn';cases hn'
   obtain⟨new,s1,s2,s3,s4⟩:=hsrc (λb' hb'=>h1 b' hb') hr r2;rw[ex]at r1;simp only[RepV,RepC]at r1;obtain⟨p,base,p1,p2,p3,p4,p5⟩:=r1;have hone:=iR.one s4 s3;simp only[Nat.zero_add]at p3;simp only[eP]at p2;have how:=hr.own b p p1;rw[eb']at how;have hl:=blen hbnd;by_cases hin:len+ys.length<=p.2
   ·-- there is room
    by_cases hp0:p.2=0
    ·have hlen0:len=0:=by omega
     have hys:ys=[]:=aT.1 (by omega);subst hlen0 hys;have hnew:new=[]:=aT.1 (by simpa using s3);subst hnew;obtain⟨K1,S1⟩:=hr.kill (b:=b) (by rw[eb'];simp);obtain⟨K2,S2⟩:=K1.none (b:=n) (by rw[zcg _ _ hnb];exact hn') s;refine⟨ph,_,w,.slice base 0 p.2,wrap ?_,S1.trans S2,K2,gD w,?_⟩
     ·rw[p2]
      have:=IL (P:=P) (T:=T) (T':=T') (ty:=o.type) (i:=i) (base:=base) (sLen:=0) (sCap:=p.2) (k:=0) (x:=a.eval oy) (w:=w) (w':=w) (new:=#[]) hu hei hu' hnot s1 (by omega) (by rw[c1];exact s2 w rfl)
       (λq hq=>by simp only[bR];exact fK _) (λ_=>rfl)
      simpa using this
     ·simp only[RepV,RepC];refine⟨(0,0),base,zaE _ _ _,by simp[hp0],by simp,λh=>by simp at h,λq hq h=>by simp at h⟩
    ·have hreal:Real (m' b) p:=by rw[eb'];show 0<p.2;omega
     have hbase:=p4 (by omega);subst hbase;rcases how with⟨q1,q2⟩|⟨us,U,g1,g2,g3,g5,g4⟩
     ·omega
     have hm3:(len+ys.length)*s<=p.2*s:=bn s hin;have e2:(len+ys.length)*s=len*s+ys.length*s:=bC ..;have hle:len*s+new.length<=us.length:=by omega
     have hrep:zaI ph (upd ρ n (some p)) p (.arr s (es.take len++ys)) (w.heap.setIfInBounds p.1 (.cells (Abs.splice us (len*s) new).toArray U (0,0))):=by
      refine .inr ⟨_,U,Hz _ _ (hr.real_lt p1 hreal),by rw[BP];exact g2,by simp;omega,by simp;omega,?_⟩;exact iR.mono (fu ph) (CY ((hr.dom n).1 hn')) _ _ (iR.grown g4 k4 s4 s3 hle)
     obtain⟨K1,S1⟩:=hr.move (.cells (Abs.splice us (len*s) new).toArray U (0,0)) p1 hreal hn' (blk:=.arr s (es.take len++ys)) (by simp) hrep;refine⟨ph,_,{w with heap:=w.heap.setIfInBounds p.1 (.cells (Abs.splice us (len*s) new).toArray U (0,0))},.slice (some ⟨p.1,0,none⟩) (len+ys.length) p.2,wrap ?_,S1,K1,gD w,?_⟩
     ·rw[p2];simp only[bR]at*
      refine IL (i:=i) (new:=new.toArray) hu hei hu' hnot s1 hin (by rw[c1];exact s2 w rfl) (λq hq=>?_) (λh=>by cases h);cases hq;rw[addr_add,c1];simp only[Nat.zero_add];exact iA.storeAt g1 (by simpa using hle) hone
     ·simp only[RepV,RepC];exact⟨p,some ⟨p.1,0,none⟩,zaE _ _ _,by simp,by simpa using hin,λ_=>by simp,λq hq _=>by cases hq;rfl⟩
   ·-- a new row
    obtain⟨K0,S0⟩:=hr.kill (b:=b) (by rw[eb'];simp);have hold:∃oldl:List Value,iA P (Builtin.firstCells s len (.slice base len p.2)) (World.drew1 w) oldl.toArray (World.drew1 w)/\oldl.length=len*s/\iR ph ρ s (es.take len) oldl:=by
     rcases how with⟨q1,q2⟩|⟨us,U,g1,g2,g3,g5,g4⟩
     ·have:len=0:=by omega
      subst this;refine⟨[],?_,by simp,by simp[iR]⟩;cases base with
      |none=>exact rfl
      |some q=>simp only[Builtin.firstCells,bR];exact rfl
     ·have hm3:len*s<=p.2*s:=bn s p3;have hlen:(es.take len).length=len:=by simp;omega
      refine⟨us.take (len*s),?_,by simp;omega,by have:=(g4.takeEs len).takeAll;rwa[hlen]at this⟩;by_cases hp0:0<p.2
      ·have hbase:=p4 hp0;subst hbase;simp only[Builtin.firstCells,bR];have hl2:(us.take (len*s)).length=len*s:=by simp;omega
       have:=gK (P:=P) (w:=World.drew1 w) (B:=p.1) (o:=0) (vs:=us.take (len*s)) (λj u hj=>by
        have hj':=Dz hj;rw[cell_of (show(World.drew1 w).heap[p.1]?=_ from g1)]
        simpa using hj')
       rw[hl2]at this;exact this
      ·have:len=0:=by omega
       subst this;simp only[bR,List.take_zero];cases base with
       |none=>exact rfl
       |some q=>simp only[Builtin.firstCells,bR];exact rfl
    obtain⟨oldl,o1,o2,o3⟩:=hold
    obtain⟨newCap,hcap,hrun⟩:=LH (P:=P) (T:=T) (T':=T') (ty:=o.type) (i:=i) (base:=base) (sLen:=len) (sCap:=p.2) (k:=ys.length) (x:=a.eval oy) (w:=w) (old:=oldl.toArray) (new:=new.toArray) hu hei ez hu' hnot s1
     (by omega) (by rw[c2];exact hbnd) (by omega) (by omega) (by rw[c1];exact o1) (by rw[c1];exact s2 _ rfl)
    have hlen:(es.take len).length=len:=by simp;omega
    obtain⟨K1,S1⟩:=fresh (w:=w) K0 (by rw[zcg _ _ hnb];exact hn') (k:=len+ys.length) (newCap:=newCap) o3 (by rw[hlen];exact o2) s4 s3 (by rw[hlen]) hcap hl;refine⟨ph,_,{World.drew1 w with heap:=w.heap.push (.cells (oldl.toArray++new.toArray++Builtin.zeroCells zv.cells (newCap-(len+ys.length))) et)},_,wrap (by rw[p2];exact hrun),S0.trans S1,K1,⟨rfl,rfl,rfl⟩,?_⟩;simp only[RepV,RepC];exact⟨_,some ⟨w.heap.size,0,none⟩,zaE _ _ _,by simp,by simpa using hcap,λ_=>by simp,λq hq _=>by cases hq;rfl⟩
  ·exact hK.elim
 ·rename_i s' ex;obtain⟨hn,hK⟩:=hK;obtain⟨ys,rd,⟨hbnd,kk⟩,hsrc⟩:=LJ (P:=P) hK;refine⟨_,_,_,ic.of_value λm' h1 h2 ph ρ w a hr hg=>?_,kk⟩;have r1:=jf hx (ph:=ph) (ρ:=ρ) (get:=get) (a:=a) λk hk=>hg k (ops k (.inl hk));have r2:=jf hy (ph:=ph) (ρ:=ρ) (get:=get) (a:=a) λk hk=>hg k (ops k (.inr hk));have hn':m' n=.non:=(h2 (n,.arr s ys) (by simp)).trans hn;obtain⟨new,s1,s2,s3,s4⟩:=hsrc (λb' hb'=>h1 b' hb') hr r2;rw[ex]at r1;simp only[RepV,RepC,RepD]at r1;obtain⟨base,cap,p1,p2,p3,p4,p5,p6,p7⟩:=r1;have hcap0:cap=0:=by simpa using p3
  subst hcap0;simp only[List.length_nil]at p1;by_cases hys:ys.length=0
  ·have hys':ys=[]:=aT.1 hys;subst hys';have hnew:new=[]:=aT.1 (by simpa using s3);subst hnew;obtain⟨K2,S2⟩:=hr.none (b:=n) hn' s;refine⟨ph,_,w,.slice base 0 0,wrap ?_,S2,K2,gD w,?_⟩
   ·rw[p1]
    have:=IL (P:=P) (T:=T) (T':=T') (ty:=o.type) (i:=i) (base:=base) (sLen:=0) (sCap:=0) (k:=0) (x:=a.eval oy) (w:=w) (w':=w) (new:=#[]) hu hei hu' hnot s1 (by omega) (by rw[c1];exact s2 w rfl)
     (λq hq=>by simp only[bR];exact fK _) (λ_=>rfl)
    simpa using this
   ·simp only[RepV,RepC];exact⟨(0,0),base,zaE _ _ _,by simp,by simp,λh=>by simp at h,λq hq h=>by simp at h⟩
  ·obtain⟨newCap,hcap,hrun⟩:=LH (P:=P) (T:=T) (T':=T') (ty:=o.type) (i:=i) (base:=base) (sLen:=0) (sCap:=0) (k:=ys.length) (x:=a.eval oy) (w:=w) (old:=#[]) (new:=new.toArray) hu hei ez hu' hnot s1
    (by omega) (by rw[c2];simpa using hbnd) (by omega) (by omega)
    (by
     cases base with
     |none=>exact rfl
     |some q=>simp only[Builtin.firstCells,bR];exact rfl) (by rw[c1];exact s2 _ rfl)
   obtain⟨K1,S1⟩:=fresh (w:=w) hr hn' (es:=[]) (oldl:=[]) (k:=ys.length) (newCap:=newCap) (by simp[iR]) (by simp) s4 s3 (by simp) (by omega) (blen hbnd);simp only[List.nil_append,Nat.zero_add]at K1 S1 hrun;refine⟨ph,_,{World.drew1 w with heap:=w.heap.push (.cells ((#[]:Array Value)++new.toArray++Builtin.zeroCells zv.cells (newCap-ys.length)) et)},_,wrap (by rw[p1];exact hrun),S1,K1,⟨rfl,rfl,rfl⟩,?_⟩;simp only[RepV,RepC];exact⟨_,some ⟨w.heap.size,0,none⟩,zaE _ _ _,by simp,by simp;omega,λ_=>by simp,λq hq _=>by cases hq;rfl⟩
 ·rename_i s' e es ex;obtain⟨k1,hn,hK⟩:=hK;subst k1;obtain⟨ys,rd,⟨hemp,hfull⟩,hsrc⟩:=LJ (P:=P) hK;by_cases hye:ys=[]
  ·have kk:=hemp hye;subst hye;refine⟨_,_,_,ic.of_value λm' h1 h2 ph ρ w a hr hg=>?_,kk⟩;have r1:=jf hx (ph:=ph) (ρ:=ρ) (get:=get) (a:=a) λk hk=>hg k (ops k (.inl hk));have r2:=jf hy (ph:=ph) (ρ:=ρ) (get:=get) (a:=a) λk hk=>hg k (ops k (.inr hk));obtain⟨new,s1,s2,s3,s4⟩:=hsrc (λb' hb'=>h1 b' hb') hr r2;have hnew:new=[]:=aT.1 (by simpa using s3);subst hnew;rw[ex]at r1;have r1':=r1;simp only[RepV,RepC,RepD]at r1;obtain⟨base,cap,p1,p2,p3,p4,p5,p6,p7⟩:=r1;have hcap0:cap=(e::es).length:=p3 trivial;refine⟨ph,ρ,w,a.eval ox,wrap ?_,Step.refl _ _ _ _,hr,gD w,r1'⟩;rw[p1]
   have:=IL (P:=P) (T:=T) (T':=T') (ty:=o.type) (i:=i) (base:=base) (sLen:=(e::es).length) (sCap:=cap) (k:=0) (x:=a.eval oy) (w:=w) (w':=w) (new:=#[]) hu hei hu' hnot s1 (by omega) (by rw[c1];exact s2 w rfl)
    (λq hq=>fK _) (λ_=>rfl)
   simpa using this
  obtain⟨hbnd,kk⟩:=hfull hye;have hne:=hye;generalize hes:e::es=l at ex hbnd kk;refine⟨_,_,_,ic.of_value λm' h1 h2 ph ρ w a hr hg=>?_,kk⟩;have r1:=jf hx (ph:=ph) (ρ:=ρ) (get:=get) (a:=a) λk hk=>hg k (ops k (.inl hk));have r2:=jf hy (ph:=ph) (ρ:=ρ) (get:=get) (a:=a) λk hk=>hg k (ops k (.inr hk));have hn':m' n=.non:=(h2 (n,.arr s (l.map (·.map .d)++ys)) (by simp)).trans hn;obtain⟨new,s1,s2,s3,s4⟩:=hsrc (λb' hb'=>h1 b' hb') hr r2;rw[ex]at r1;simp only[RepV,RepC,RepD]at r1;obtain⟨base,cap,p1,p2,p3,p4,p5,p6,p7⟩:=r1;have hcap0:cap=l.length:=p3 trivial;subst hcap0;have hl0:0<l.length:=by rw[<-hes];simp
  have hys:0<ys.length:=by cases ys<;>simp_all
  have htot:=p7.total;have hold:∃oldl:List Value,iA P (Builtin.firstCells s l.length (.slice base l.length l.length)) (World.drew1 w) oldl.toArray (World.drew1 w)/\oldl.length=l.length*s/\iR ph ρ s (l.map (·.map .d)) oldl:=by
   refine⟨(cellsAt ph base).take (l.length*s),?_,by simp;omega,?_⟩
   ·cases base with
    |none=>have:=(p5 rfl).1;rw[this]at hl0;simp at hl0
    | some q=>
     obtain⟨B,off,spot⟩:=q;have:=p6 _ rfl hl0;simp only at this;subst this;simp only[Builtin.firstCells];have hlen:((cellsAt ph (some ⟨B,off,none⟩)).take (l.length*s)).length=l.length*s:=by simp;omega
     have:=gK (P:=P) (w:=World.drew1 w) (B:=B) (o:=off) (vs:=(cellsAt ph (some ⟨B,off,none⟩)).take (l.length*s)) (λj u hj=>by
      have hj':=Dz hj;simp only[cellsAt,ay]at hj';unfold hcells at hj';cases hB:ph B with
      |none=>rw[hB]at hj';simp at hj'
      | some ob=>
       rw[hB]at hj';cases ob with
       |cells c T' fr=>
        rw[cell_of (show(World.drew1 w).heap[B]?=_ from hr.pers B _ hB)];simpa using hj'
       |_=>simp at hj')
     rw[hlen]at this;exact this
   ·have r8:=iR.of_E (ρ:=ρ) p7;have:=r8.takeAll;rwa[aU]at this
  obtain⟨oldl,o1,o2,o3⟩:=hold
  obtain⟨newCap,hcap,hrun⟩:=LH (P:=P) (T:=T) (T':=T') (ty:=o.type) (i:=i) (base:=base) (sLen:=l.length) (sCap:=l.length) (k:=ys.length) (x:=a.eval oy) (w:=w) (old:=oldl.toArray) (new:=new.toArray) hu hei ez hu' hnot s1
   (by omega) (by rw[c2];exact hbnd) (by omega) (by omega) (by rw[c1];exact o1) (by rw[c1];exact s2 _ rfl)
  obtain⟨K1,S1⟩:=fresh (w:=w) hr hn' (es:=l.map (·.map .d)) (k:=l.length+ys.length) (newCap:=newCap) o3 (by simpa using o2) s4 s3 (by simp) hcap (blen hbnd);refine⟨ph,_,{World.drew1 w with heap:=w.heap.push (.cells (oldl.toArray++new.toArray++Builtin.zeroCells zv.cells (newCap-(l.length+ys.length))) et)},_,wrap (by rw[p1];exact hrun),S1,K1,⟨rfl,rfl,rfl⟩,?_⟩;simp only[RepV,RepC];exact⟨_,some ⟨w.heap.size,0,none⟩,zaE _ _ _,by simp,by simp;omega,λ_=>by simp,λq hq _=>by cases hq;rfl⟩
 ·exact hK.elim
end
end Go.Abs
namespace Go.Abs
section
variable {P:Program} {get:Nat->AV} {m:Hp} {n:Nat}
theorem IM{o:Oper}{c:Call}{ox:Operand}{T:TypeId}(ho:o.op=.call c)(hb:c.callee=.builtin .len)(hargs:c.args=#[ox])(htys:c.argTypes=#[T]){k:Nat}{ph:PH}{ρ:RM}{w:World}{a:Act}(hk:k<=zah)
  (hr:iA P (Builtin.len_ #[T] o.type #[a.eval ox]) w (goInt k) w):∃vC,iA P (execOp a.eval o) w (.value vC) w/\RepV ph ρ (.c (.d (.int .i64 k))) vC:=by
 refine⟨goInt k,?_,?_⟩
 ·unfold execOp;rw[ho];show iA P (do let d<-resolve a.eval c o.type;invoke d.target d.args) w _ w;unfold resolve;rw[hb,hargs,htys];refine(fK _).bind ?_;simp only[invoke,List.map_toArray,List.map_cons,List.map_nil];exact hr.bind (fK _)
 ·simp only[RepV,RepC];unfold RepD;unfold zah at hk;refine⟨rfl,?_,?_⟩
  ·simp only[IntKind.min,IntKind.signed,IntKind.bits];simp
  ·simp only[IntKind.max,IntKind.signed,IntKind.bits];simp;omega
theorem znV{o:Oper}{c:Call}{x:MX}(ho:o.op=.call c)(hc:iP P (.len x) (.call c)=true){K:AV->List Nat->Prop}
  (hK:match X get x with
  |.c (.d (.sl _ _ es))=>K (.c (.d (.int .i64 es.length))) []
  |.c (.msl _ b off l)=>match m b with
   |.arr _ es=>off+l<=es.length/\K (.c (.d (.int .i64 l))) [b]
   |_=>False
  |_=>False):∃v rd,ic P o get m rd [] v/\K v rd:=by
 simp only[iP]at hc;split at hc
 ·rename_i ox T hb ha hta;simp only[aG]at hc;obtain⟨hx,ht⟩:=hc;have hargs:c.args=#[ox]:=by rw[<-au (xs:=c.args),ha]
  have htys:c.argTypes=#[T]:=by rw[<-au (xs:=c.argTypes),hta]
  have hop:∀k,ox=.tmp k->Operand.tmp k∈o.op.operands:=by
   intro k hk;rw[ho];simp[Op.operands,Call.operands,hb,hargs,hk]
  split at ht
  ·rename_i e hu;have sl:∀{w:World} {a:Option Addr} {l cp:Nat},iA P (Builtin.len_ #[T] o.type #[.slice a l cp]) w (goInt l) w:=by
    intro w a l cp;unfold Builtin.len_;refine(fZ hu).bind ?_;exact fK _
   split at hK
   ·rename_i fl s es ex;refine⟨_,[],ic.of_pure λm' h1 ph ρ w a hr hg=>?_,hK⟩;have r1:=jf hx (ph:=ph) (ρ:=ρ) (get:=get) (a:=a) λk hk=>hg k (hop k hk);rw[ex]at r1;simp only[RepV,RepC,RepD]at r1;obtain⟨b,cap,e1,e2,e3,e4,_⟩:=r1;refine IM ho hb hargs htys e4 ?_;rw[e1];exact sl
   ·rename_i s b off l ex;split at hK
    ·rename_i s' es eb;obtain⟨k1,hK⟩:=hK;refine⟨_,[b],ic.of_pure λm' h1 ph ρ w a hr hg=>?_,hK⟩;have r1:=jf hx (ph:=ph) (ρ:=ρ) (get:=get) (a:=a) λk hk=>hg k (hop k hk);rw[ex]at r1;simp only[RepV,RepC]at r1;obtain⟨p,q,e0,e1,e2⟩:=r1;have how:=hr.own b p e0;rw[h1 b (by simp),eb]at how;have hlm:l<=zah:=by
      rcases how with⟨_,h0⟩|⟨us,U,g1,g2,g3,g5,g4⟩
      ·rw[h0]at k1;simp at k1;unfold zah;omega
      ·omega
     refine IM ho hb hargs htys hlm ?_;rw[e1];exact sl
    ·exact hK.elim
   ·exact hK.elim
  ·cases ht
 ·cases hc
theorem zmY{o:Oper}{c:Call}{x:MX}(ho:o.op=.call c)(hc:iP P (.lenS x) (.call c)=true){t:fI}(ex:X get x=.c (.d (.str t))):ic P o get m [] [] (.c (.d (.int .i64 t.size))):=by
 simp only[iP]at hc;split at hc
 ·rename_i ox T hb ha hta;simp only[aG]at hc;obtain⟨hx,ht⟩:=hc;have hargs:c.args=#[ox]:=by rw[<-au (xs:=c.args),ha]
  have htys:c.argTypes=#[T]:=by rw[<-au (xs:=c.argTypes),hta]
  have hop:∀k,ox=.tmp k->Operand.tmp k∈o.op.operands:=by
   intro k hk;rw[ho];simp[Op.operands,Call.operands,hb,hargs,hk]
  split at ht
  ·rename_i hu;refine ic.of_pure λm' h1 ph ρ w a hr hg=>?_;have r1:=jf hx (ph:=ph) (ρ:=ρ) (get:=get) (a:=a) λk hk=>hg k (hop k hk);rw[ex]at r1;simp only[RepV,RepC,RepD]at r1;refine IM ho hb hargs htys r1.2 ?_;rw[r1.1];unfold Builtin.len_;refine(fZ hu).bind ?_;exact fK _
  ·cases ht
 ·cases hc
theorem LK{o:Oper}{x:MX}{ox:Operand}(ho:o.op=.nilCheck ox)(hx:iI x ox=true)(hp:∀{ph:PH} {ρ:RM} {v:Value},RepV ph ρ (X get x) v->∃q,v=.pointer (some q)):ic P o get m [] [] (X get x):=by
 refine ic.of_pure λm' h1 ph ρ w a hr hg=>⟨a.eval ox,?_,?_⟩
 ·have r1:=jf hx (ph:=ph) (ρ:=ρ) (get:=get) (a:=a) λk hk=>hg k (by rw[ho];simp[Op.operands,hk]);obtain⟨q,e⟩:=hp r1;unfold execOp;rw[ho];simp only[e];exact fK _
 ·exact jf hx λk hk=>hg k (by rw[ho];simp[Op.operands,hk])
theorem zai.nth{h:PH}{ρ:RM}:∀{xs:List AV} {vs:List Value} {j:Nat} {x:AV},zai h ρ xs vs->xs[j]?=some x->∃v,vs[j]?=some v/\RepV h ρ x v
|[],_,j,x,_,e=>by simp at e
|_::_,[],_,_,r,_=>by simp[zai]at r
|d::ds,v::vs,0,x,r,e=>by
 simp only[zai]at r;simp at e;subst e;exact⟨v,by simp,r.1⟩
|d::ds,v::vs,j+1,x,r,e=>by
 simp only[zai]at r;simp only[List.getElem?_cons_succ]at e⊢;exact zai.nth r.2 e
theorem zkb{o:Oper}{x:MX}{ox:Operand}{i:Nat}{vs:List AV}{v:AV}(ho:o.op=.extract ox i)(hx:iI x ox=true)(ex:X get x=.tup vs)(ev:vs[i]?=some v):ic P o get m [] [] v:=by
 refine ic.of_pure λm' h1 ph ρ w a hr hg=>?_;have r1:=jf hx (ph:=ph) (ρ:=ρ) (get:=get) (a:=a) λk hk=>hg k (by rw[ho];simp[Op.operands,hk]);rw[ex]at r1;simp only[RepV]at r1;obtain⟨us,e1,e2⟩:=r1;obtain⟨u,e3,e4⟩:=e2.nth ev;refine⟨u,?_,e4⟩;unfold execOp;rw[ho];refine fM ?_ (fK _);show iA P (Instr.extract (a.eval ox) i) w u w;rw[e1];unfold Instr.extract;simp only[eT,e3];exact fK _
theorem EC{get:Nat->AV}{d:Nat}{K:Nat->Prop}{x:Option MX}{ox:Option Operand}(h:bnd get d K x)(hc:vM x ox=true):∃j,K j/\(ox=none->j=d)/\
  ∀{ph:PH} {ρ:RM} {a:Act},(∀k,ox=some (.tmp k)->RepV ph ρ (get k) (a.tmps.getD k undef))->∀y,ox=some y->∃k,a.eval y=.int k j:=by
 unfold bnd at h;split at h
 ·cases ox with
  |none=>exact⟨d,h,λ_=>rfl,λ_ y hy=>by cases hy⟩
  |some _=>simp[vM]at hc
 ·rename_i x;cases ox with
  |none=>simp[vM]at hc
  | some y=>
   simp only[vM]at hc;split at h
   ·rename_i k j ex;obtain⟨h1,h2⟩:=h;refine⟨j.toNat,h2,λhh=>(by cases hh),λ{ph ρ a} hg y' hy'=>?_⟩;cases hy';have r1:=jf hc (ph:=ph) (ρ:=ρ) (get:=get) (a:=a) λk hk=>hg k (by rw[hk]);rw[ex]at r1;simp only[RepV,RepC,RepD]at r1;exact⟨k,by rw[r1.1];congr 1;omega⟩
   ·exact h.elim
theorem IP{x:Value}{k:IntKind}{j y:Nat}{code:BoundsCode}{w:World}(e:x=.int k j)(h:j<=y):iA P (Instr.sliceBound x y code) w j w:=by
 rw[e];unfold Instr.sliceBound;refine(fK (k,(j:Int))).bind ?_;dsimp only;rw[aC (by omega)];have:((j:Int)).toNat=j:=by simp
 rw[this];exact fK _
theorem Rh{isSlice:Bool}{len cap:Nat}{low high:Option Value}{l h:Nat}{w:World}(hl:∀x,low=some x->∃k,x=.int k l)(hl0:low=none->l=0)(hh:∀x,high=some x->∃k,x=.int k h)(hh0:high=none->h=len)
  (h1:l<=h) (h2:h<=cap):iA P (Instr.sliceBounds isSlice len cap low high none) w (l,h,cap) w:=by
 unfold Instr.sliceBounds;refine(fK cap).bind ?_;dsimp only
 have e2:∀(K:Nat->Sem (Nat × Nat × Nat)),(∀v,K v=Pure.pure (v,h,cap))->iA P (match low with
   |some v=>do
    let l<-Instr.sliceBound v h (if(none:Option Value).isSome=true then .slice3C else .sliceB)
    K l
   |none=>do
    let l<-Pure.pure 0
    K l) w (l,h,cap) w:=by
  intro K hK;cases low with
  |none=>
   have:=hl0 rfl;subst this;refine(fK 0).bind ?_;rw[hK];exact fK _
  |some v=>
   obtain⟨k,e⟩:=hl v rfl;refine(IP e h1).bind ?_;rw[hK];exact fK _
 cases high with
 |none=>
  have:=hh0 rfl;subst this;refine(fK _).bind ?_;exact e2 _ λ_=>rfl
 |some v=>
  obtain⟨k,e⟩:=hh v rfl;refine(IP e h2).bind ?_;exact e2 _ λ_=>rfl
theorem Ex{α β:Type}{x:Option α}{f:α->β}(h:x.map f=none):x=none:=by cases x<;>simp_all
theorem zk2{x:Option MX}{o:Option Operand}(h:vM x o=true):x.isNone=o.isNone:=by cases x<;>cases o<;>simp_all[vM]
theorem zl4{o:Oper}{T:TypeId}{s:Nat}{x:MX}{lo hi:Option MX}{ox:Operand}{l h mx:Option Operand}(ho:o.op=.slice T ox l h mx)(hc:iP P (.slice s x lo hi) (.slice T ox l h mx)=true){K:AV->Prop}
  (hK:match X get x with
  |.c (.d (.sl e s' es))=>s=s'/\bnd get es.length (λh=>bnd get 0 (λl=>l<=h/\h<=es.length/\K (.c (.d (.sl (e&&hi.isNone) s ((es.take h).drop l))))) lo) hi
  |.c (.msl s' b off len)=>s=s'/\bnd get len (λh=>bnd get 0 (λl=>l<=h/\h<=len/\K (.c (.msl s b (off+l) (h-l)))) lo) hi
  |_=>False):∃v,ic P o get m [] [] v/\K v:=by
 simp only[iP,aG]at hc;obtain⟨⟨⟨⟨c0,c1⟩,hx⟩,c2⟩,c3⟩:=hc;have hmx:mx=none:=by cases mx<;>simp_all
 subst hmx;split at c0
 ·rename_i et het;simp only[aY]at c0;obtain⟨e,hu,hei⟩:=EB het;have ops:∀k,(ox=.tmp k\/l=some (.tmp k)\/h=some (.tmp k))->Operand.tmp k∈o.op.operands:=by
   intro k hk;rw[ho];simp only[Op.operands];rcases hk with hk|hk|hk<;>simp[hk]
  have base:∀(v:AV) (L H:Nat)
    (HL:∀{ph:PH} {ρ:RM} {a:Act},(∀k,l=some (.tmp k)->RepV ph ρ (get k) (a.tmps.getD k undef))->∀y,l=some y->∃k,a.eval y=.int k L)
    (HH:∀{ph:PH} {ρ:RM} {a:Act},(∀k,h=some (.tmp k)->RepV ph ρ (get k) (a.tmps.getD k undef))->∀y,h=some y->∃k,a.eval y=.int k H)
    (hl0:l=none->L=0) (hLH:L<=H)
    (HV:∀(ph:PH) (ρ:RM) (p:Value),RepV ph ρ (X get x) p->∃A len cap,p=.slice A len cap/\(h=none->H=len)/\H<=cap/\RepV ph ρ v (.slice (if cap=L then A else A.map (·.add (L*s))) (H-L) (cap-L))),ic P o get m [] [] v:=by
   intro v L H HL HH hl0 hLH HV;refine ic.of_pure λm' h1 ph ρ w a hr hg=>?_;have r1:=jf hx (ph:=ph) (ρ:=ρ) (get:=get) (a:=a) λk hk=>hg k (ops k (.inl hk));obtain⟨A,len,cap,e1,e2,e3,rv⟩:=HV ph ρ _ r1;refine⟨_,?_,rv⟩;unfold execOp;rw[ho];refine fM ?_ (fK _);show iA P (Instr.sliceAt T (a.eval ox) (l.map a.eval) (h.map a.eval) none) w _ w;rw[e1];unfold Instr.sliceAt;refine(fZ hu).bind ?_;unfold Instr.slice;refine(fZ hu).bind ?_;refine(Rh (l:=L) (h:=H) ?_ (λhh=>hl0 (Ex hh)) ?_ (λhh=>e2 (Ex hh)) hLH e3).bind ?_
   ·intro y hy;cases hl:l with
    |none=>rw[hl]at hy;cases hy
    |some z=>
     rw[hl]at hy;simp only[Option.map_some,af]at hy;subst hy;exact HL (λk hk=>hg k (ops k (.inr (.inl hk)))) z hl
   ·intro y hy;cases hh:h with
    |none=>rw[hh]at hy;cases hy
    |some z=>
     rw[hh]at hy;simp only[Option.map_some,af]at hy;subst hy;exact HH (λk hk=>hg k (ops k (.inr (.inr hk)))) z hh
   refine(gF hei).bind ?_;rw[c0];exact fK _
  split at hK
  ·rename_i fl s' es ex;obtain⟨k1,hK⟩:=hK;subst k1;obtain⟨H,hK,hH0,HH⟩:=EC hK c3;obtain⟨L,⟨g1,g2,kk⟩,hL0,HL⟩:=EC hK c2;refine⟨_,base _ L H HL HH hL0 g1 λph ρ p rp=>?_,kk⟩;rw[ex]at rp;simp only[RepV,RepC,RepD]at rp⊢;obtain⟨A,cap,r1,r2,r3,r4,r5,r6,r7⟩:=rp;have hlen:((es.take H).drop L).length=H-L:=by simp;omega
   refine⟨A,es.length,cap,r1,hH0,by omega,_,_,by rw[hlen],by omega,?_,by omega,?_,?_,?_⟩
   ·intro hf;simp only[aG]at hf;have hn:=zk2 c3;rw[hf.2]at hn;have hh:h=none:=by
     cases h with
     |none=>rfl
     |some _=>cases hn
    have:=hH0 hh;have:=r3 hf.1;omega
   ·intro hA;split at hA
    ·have:=r5 hA;rw[this.1];simp;omega
    ·have hA':A=none:=Ex hA;have:=r5 hA';rw[this.1];simp;omega
   ·intro p hp hcap;split at hp
    ·exact r6 p hp (by omega)
    ·cases A with
     |none=>cases hp
     |some q=>
      simp only[Option.map_some,af]at hp;rw[<-hp];have:=r6 q rfl (by omega);obtain⟨B,of,sp⟩:=q;simp only at this;subst this;rw[addr_add]
   ·split
    ·rename_i hcl;have:(es.take H).drop L=[]:=aT.1 (by rw[hlen];omega);rw[this];simp[RepE]
    ·cases A with
     |none=>have:=(r5 rfl).1;subst this;simp[RepE]
     |some q=>
      have:=r6 q rfl (by omega);obtain⟨B,of,sp⟩:=q;simp only at this;subst this;simp only[Option.map_some,addr_add,cellsAt]at r7⊢;rw[<-bO];exact(r7.take H).drop L
  ·rename_i s' b off len ex;obtain⟨k1,hK⟩:=hK;subst k1;obtain⟨H,hK,hH0,HH⟩:=EC hK c3;obtain⟨L,⟨g1,g2,kk⟩,hL0,HL⟩:=EC hK c2;refine⟨_,base _ L H HL HH hL0 g1 λph ρ p rp=>?_,kk⟩;rw[ex]at rp;simp only[RepV,RepC]at rp⊢;obtain⟨q,A,r1,r2,r3,r4,r5⟩:=rp;refine⟨A,len,q.2-off,r2,hH0,by omega,q,_,r1,by rw[Nat.sub_sub],by omega,λhlt=>?_,λz hz hcap=>?_⟩
   ·rw[aB (by omega),r4 (by omega)];simp only[Option.map_some,addr_add,bC]
   ·split at hz
    ·exact r5 z hz (by omega)
    ·cases A with
     |none=>cases hz
     |some y=>
      simp only[Option.map_some,af]at hz;rw[<-hz];have:=r5 y rfl (by omega);obtain⟨B,of,sp⟩:=y;simp only at this;subst this;rw[addr_add]
  ·exact hK.elim
 ·cases c0
theorem zkc{o:Oper}{T:TypeId}{s:Nat}{x:MX}{ox:Operand}{l h mx:Option Operand}(ho:o.op=.slice T ox l h mx)(hc:iP P (.slice00 s x) (.slice T ox l h mx)=true){fl:Bool}{s':Nat}{es:List (List D)}
  (ex:X get x=.c (.d (.sl fl s' es))):ic P o get m [] [] (.c (.d (.sl true s []))):=by
 simp only[iP,aG]at hc;obtain⟨⟨⟨⟨c0,hx⟩,c1⟩,c2⟩,c3⟩:=hc;have hl:l=none:=by cases l<;>simp_all
 subst hl;split at c0
 ·rename_i et het;simp only[aY]at c0;obtain⟨e,hu,hei⟩:=EB het;cases h with
  |none=>simp[vM]at c2
  | some h=>
   cases mx with
   |none=>simp[vM]at c3
   | some mx=>
    simp only[vM]at c2 c3;refine ic.of_pure λm' h1 ph ρ w a hr hg=>?_;have r1:=jf hx (ph:=ph) (ρ:=ρ) (get:=get) (a:=a) λk hk=>hg k (by rw[ho];simp[Op.operands,hk]);have r2:=jf c2 (ph:=ph) (ρ:=ρ) (get:=get) (a:=a) λk hk=>hg k (by rw[ho];simp[Op.operands,hk]);have r3:=jf c3 (ph:=ph) (ρ:=ρ) (get:=get) (a:=a) λk hk=>hg k (by rw[ho];simp[Op.operands,hk]);simp only[X,RepV,RepC,RepD]at r2 r3;rw[ex]at r1;simp only[RepV,RepC,RepD]at r1;obtain⟨A,cap,q1,q2,q3,q4,q5,q6,q7⟩:=r1;refine⟨.slice A 0 0,?_,?_⟩
    ·unfold execOp;rw[ho];refine fM ?_ (fK _);show iA P (Instr.sliceAt T (a.eval ox) none (some (a.eval h)) (some (a.eval mx))) w _ w;rw[q1,r2.1,r3.1];unfold Instr.sliceAt;refine(fZ hu).bind ?_;unfold Instr.slice;refine(fZ hu).bind ?_;refine fM (a:=(0,0,0)) (w':=w) ?_ ?_
     ·unfold Instr.sliceBounds;refine fM (a:=0) (w':=w) (IP (k:=.i64) (j:=0) rfl (dL _)) ?_;refine fM (a:=0) (w':=w) (IP (k:=.i64) (j:=0) rfl (dL _)) ?_;exact(fK 0).bind (fK _)
     ·refine(gF hei).bind ?_;exact fK _
    ·simp only[RepV,RepC,RepD];refine⟨A,0,rfl,by simp,λ_=>rfl,by simp,λ_=>⟨trivial,rfl⟩,λq hq h=>absurd h (by simp),by simp[RepE]⟩
 ·cases c0
theorem zk3{o:Oper}{T:TypeId}{x:MX}{lo hi:Option MX}{ox:Operand}{l h mx:Option Operand}(ho:o.op=.slice T ox l h mx)(hc:iP P (.sliceS x lo hi) (.slice T ox l h mx)=true){K:AV->Prop}{t:fI}
  (ex:X get x=.c (.d (.str t))) (hK:bnd get t.size (λh=>bnd get 0 (λl=>l<=h/\h<=t.size/\K (.c (.d (.str (t.extract l h))))) lo) hi):∃v,ic P o get m [] [] v/\K v:=by
 simp only[iP,aG]at hc;obtain⟨⟨⟨⟨c0,c1⟩,hx⟩,c2⟩,c3⟩:=hc;have hmx:mx=none:=by cases mx<;>simp_all
 subst hmx;split at c0
 ·rename_i hu;have ops:∀k,(ox=.tmp k\/l=some (.tmp k)\/h=some (.tmp k))->Operand.tmp k∈o.op.operands:=by
   intro k hk;rw[ho];simp only[Op.operands];rcases hk with hk|hk|hk<;>simp[hk]
  obtain⟨H,hK,hH0,HH⟩:=EC hK c3;obtain⟨L,⟨g1,g2,kk⟩,hL0,HL⟩:=EC hK c2;refine⟨_,ic.of_pure λm' h1 ph ρ w a hr hg=>?_,kk⟩;have r1:=jf hx (ph:=ph) (ρ:=ρ) (get:=get) (a:=a) λk hk=>hg k (ops k (.inl hk));rw[ex]at r1;simp only[RepV,RepC,RepD]at r1;refine⟨.string (t.extract L H),?_,?_⟩
  ·unfold execOp;rw[ho];refine fM ?_ (fK _);show iA P (Instr.sliceAt T (a.eval ox) (l.map a.eval) (h.map a.eval) none) w _ w;rw[r1.1];unfold Instr.sliceAt;refine(fZ hu).bind ?_;unfold Instr.slice;refine(fZ hu).bind ?_;refine(Rh (l:=L) (h:=H) ?_ (λhh=>hL0 (Ex hh)) ?_ (λhh=>hH0 (Ex hh)) g1 g2).bind ?_
   ·intro y hy;cases hl:l with
    |none=>rw[hl]at hy;cases hy
    |some z=>
     rw[hl]at hy;simp only[Option.map_some,af]at hy;subst hy;exact HL (λk hk=>hg k (ops k (.inr (.inl hk)))) z hl
   ·intro y hy;cases hh:h with
    |none=>rw[hh]at hy;cases hy
    |some z=>
     rw[hh]at hy;simp only[Option.map_some,af]at hy;subst hy;exact HH (λk hk=>hg k (ops k (.inr (.inr hk)))) z hh
   exact fK _
  ·simp only[RepV,RepC];unfold RepD;refine⟨rfl,?_⟩;have:=r1.2;rw[ByteArray.size_extract];omega
 ·cases c0
end
end Go.Abs
