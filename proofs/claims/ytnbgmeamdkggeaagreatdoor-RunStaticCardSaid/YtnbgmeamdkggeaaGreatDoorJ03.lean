/- Texts of ours, joined and written short by a program of ours. -/
import Derived.Test.YtnbgmeamdkggeaaGreatDoorJ02
import Derived.Lib.ConvBytes
import Derived.Laws.AppendOwn
import Derived.Laws.BytesString
import Derived.Laws.BytesArg
import Derived.KernelRfl
set_option maxRecDepth 20000
set_option maxHeartbeats 4000000
set_option linter.unusedVariables false
set_option linter.unusedSectionVars false
set_option linter.unusedSimpArgs false
set_option linter.defProp false
set_option linter.unnecessarySimpa false
namespace Go.Abs
open Go.Lib
variable [jQ]
def Qt:∀{es:List (List AC)} {ds:List (List D)},EU es=some ds->es=ds.map (·.map .d)
|[],ds,e=>by simp only[EU]at e;cases e;rfl
| x::es,ds,e=>by
 simp only[EU]at e;split at e
 ·rename_i d ds' h1 h2;cases e;rw[Qt h2,AY h1];rfl
 ·cases e
def EZ:∀(a b:List (Nat × Blk)) (m:Hp),jc m (a++b)=jc (jc m a) b
|[],b,m=>rfl
|x::a,b,m=>by simp only[List.cons_append,jc];exact EZ a b _
def KW:∀{l:List Nat} {m:Hp} {j:Nat},j∉l->jc m (l.map λj=>(j,.dead)) j=m j
|[],m,j,_=>rfl
|x::l,m,j,h=>by
 simp only[aS,not_or]at h;simp only[List.map_cons,jc];rw[KW h.2,zah _ _ h.1]
section
variable {h:PH} {ρ:RM} {w:Heap}
def zfY{m:Hp}(H:HRel h ρ m w){b s off len:Nat}{ds:List (List D)}{v:Value}(hb:m b=.arr s (ds.map (·.map .d)))(r:RepC h ρ (.msl s b off len) v)(h2:off+len<=ds.length):
  ∃h',HRel h' ρ (upd m b .dead) w/\Step h ρ m w h' ρ (upd m b .dead) w/\RepD h' (.sl false s ((ds.drop off).take len)) v:=by
 simp only[RepC]at r;obtain⟨p,a,e,r2,r3,r4,r5⟩:=r;have hlen:((ds.drop off).take len).length=len:=by simp;omega
 have how:=H.own b p e;rw[hb]at how;by_cases hp:0<p.2
 ·obtain⟨K,S⟩:=H.freeze e (show Real (m b) p by rw[hb];exact hp);refine⟨_,K,S,?_⟩;unfold RepD;rcases how with⟨q1,q2⟩|⟨us,U,g1,g2,g3,g5,g4⟩
  ·omega
  ·refine⟨a,p.2-off,by rw[r2,hlen],by omega,(λh=>by cases h),by simp at g5;omega,λha=>?_,r5,?_⟩
   ·have:¬off<p.2:=λhlt=>by rw[r4 hlt]at ha;cases ha
    have hl0:len=0:=by omega
    subst hl0;exact⟨by simp,by omega⟩
   ·by_cases hlt:off<p.2
    ·have ha:=r4 hlt;subst ha;have e4:cellsAt (upd h p.1 w[p.1]?) (some ⟨p.1,off*s,none⟩)=us.drop (off*s):=by
      simp only[cellsAt,hcells,zae];rw[g1]
     rw[e4];have g6:=gp.to_E g4;have:=(g6.drop off).take len;have key:∀(es:List (List D)) (vs:List Value),RepE h s es vs->RepE (upd h p.1 w[p.1]?) s es vs:=λes vs r=>by
      simpa using RepE.mono S.hle es vs [] r
     exact key _ _ this
    ·have hl0:len=0:=by omega
     subst hl0;simp[RepE]
 ·obtain⟨K,S⟩:=H.kill (b:=b) (by rw[hb];intro h;cases h);refine⟨h,K,S,?_⟩;unfold RepD;have hl0:len=0:=by omega
  subst hl0;exact⟨a,p.2-off,by rw[r2];simp,by simp,(λh=>by cases h),by simp[zao],(λha=>⟨by simp,by omega⟩),r5,by simp[RepE]⟩
def KX{m m':Hp}:∀{cs:List AC} {p:List D × List Nat},mQ m cs=some p->(∀j,j∈p.2->m' j=m j)->mQ m' cs=some p
|[],p,e,_=>e
|.d x::cs,p,e,k=>by
 simp only[mQ,aJ]at e⊢;obtain⟨q,e1,e2⟩:=e;subst e2;exact⟨q,KX e1 k,rfl⟩
| .msl s b off len::cs,p,e,k=>by
 simp only[mQ]at e⊢;split at e
 ·rename_i s' es q hb hq;split at e
  ·rename_i ds hd;split at e
   ·rename_i hh;cases e;have hb':m' b=.arr s' es:=(k b (by simp)).trans hb;have hq':=KX (m':=m') hq λj hj=>k j (by simp[hj]);simp only[hb',hq',hd,hh,not_false_eq_true,and_self,if_true]
   ·cases e
  ·cases e
 ·cases e
|.ptr .. ::_,p,e,_=>by simp[mQ]at e
|.ept .. ::_,p,e,_=>by simp[mQ]at e
|.map .. ::_,p,e,_=>by simp[mQ]at e
|.fn .. ::_,p,e,_=>by simp[mQ]at e
|.op .. ::_,p,e,_=>by simp[mQ]at e
def KY{m:Hp}:∀{cs:List AC} {vs:List Value} {p:List D × List Nat},mQ m cs=some p->HRel h ρ m w->gK h ρ cs vs->
 ∃h',HRel h' ρ (jc m (p.2.map λj=>(j,.dead))) w/\Step h ρ m w h' ρ (jc m (p.2.map λj=>(j,.dead))) w/\RepL h' p.1 vs
|[],vs,p,e,H,_=>by
 simp only[mQ]at e;cases e;exact⟨h,H,Step.refl _ _ _ _,by simp[RepL]⟩
|.d x::cs,[],p,e,H,r=>by simp[gK]at r
|.d x::cs,v::vs,p,e,H,r=>by
 simp only[mQ,aJ]at e;obtain⟨q,e1,e2⟩:=e;subst e2;simp only[gK,RepC]at r;obtain⟨h',K,S,L⟩:=KY e1 H r.2;refine⟨h',K,S,?_⟩;simp only[RepL];exact⟨⟨r.1.1,RepD.mono S.hle _ _ r.1.2⟩,L⟩
|.msl s b off len::cs,[],p,e,H,r=>by simp[gK]at r
| .msl s b off len::cs,v::vs,p,e,H,r=>by
 simp only[mQ]at e;split at e
 ·rename_i s' es q hb hq;split at e
  ·rename_i ds hd;split at e
   ·rename_i hh;cases e;obtain⟨rfl,h2,h3⟩:=hh;simp only[gK]at r;obtain⟨h1,K,S,L⟩:=KY hq H r.2;have hb1:jc m (q.2.map λj=>(j,.dead)) b=.arr s (ds.map (·.map .d)):=by rw[KW h3,hb,Qt hd]
    obtain⟨h4,K4,S4,L4⟩:=zfY K hb1 (RepC.mono S.hle (fA _) _ _ r.1.2) h2;refine⟨h4,?_,?_,?_⟩
    ·rw[List.map_append,EZ];exact K4
    ·rw[List.map_append,EZ];exact S.trans S4
    ·simp only[RepL];exact⟨⟨r.1.1,L4⟩,by simpa using fJ S4.hle _ _ [] L⟩
   ·cases e
  ·cases e
 ·cases e
|.ptr .. ::_,_,p,e,_,_=>by simp[mQ]at e
|.ept .. ::_,_,p,e,_,_=>by simp[mQ]at e
|.map .. ::_,_,p,e,_,_=>by simp[mQ]at e
|.fn .. ::_,_,p,e,_,_=>by simp[mQ]at e
|.op .. ::_,_,p,e,_,_=>by simp[mQ]at e
def Qu:∀{ys:List (List AC)} {l:List UInt8} {new:List Value},ww ys=some l->gp h ρ 1 ys new->new.length=ys.length*1->∃ns:List Int,new=ns.map (Value.int .u8)/\l=ns.map λn=>UInt8.ofNat n.toNat
|[],l,new,e,r,hl=>by
 simp only[ww]at e;cases e;have:new=[]:=aa.1 (by simpa using hl);subst this;exact⟨[],rfl,rfl⟩
|[.d (.int .u8 n)]::ys,l,[],e,r,hl=>by simp[gp,gK]at r
|[.d (.int .u8 n)]::ys,l,v::new,e,r,hl=>by
 simp only[ww,aJ]at e;obtain⟨l',e1,e2⟩:=e;subst e2;simp only[gp,gK,RepC,RepD,List.drop_succ_cons,List.drop_zero]at r;obtain⟨ns,h1,h2⟩:=Qu e1 r.2.2 (by simpa using hl);refine⟨n::ns,?_,?_⟩
 ·rw[List.map_cons,<-h1,r.2.1.1.2.1]
 ·rw[List.map_cons,<-h2]
|[]::_,l,new,e,r,hl=>by simp[ww]at e
end
section
variable {P:Program} {get:Nat->AV} {m:Hp} {n:Nat}
def Qv{T:TypeId}(h:(match Gx P T with|some (.int .u8)=>true|_=>false)=true):∃e,P.underlying T=some (.slice e)/\P.underlying e=some (.int .u8):=by
 unfold Gx at h;split at h
 ·rename_i hs;split at hs
  ·rename_i e he;exact⟨e,he,hs⟩
  ·cases hs
 ·cases h
def Qw{T:TypeId}(h:(match P.underlying T with|some .string=>true|_=>false)=true):P.underlying T=some .string:=by
 split at h
 ·rename_i hs;exact hs
 ·cases h
def zfy{o:Oper}{S U:TypeId}{x:MX}{ox:Operand}(ho:o.op=.convert S U ox)(hc:gY P (.toBs x) (.convert S U ox)=true){s:di}(ex:X get x=.c (.d (.str s))):
  gz P o get m [] [] (.c (.d (.sl false 1 (s.data.toList.map λb=>[.int .u8 b.toNat])))):=by
 simp only[gY,aC]at hc;obtain⟨⟨c1,c2⟩,hx⟩:=hc;have hs:=Qw c1;obtain⟨e,hd,he⟩:=Qv c2;refine gz.of_value λm' h1 h2 ph ρ w a hr hg=>?_;have r1:=jF hx (ph:=ph) (ρ:=ρ) (get:=get) (a:=a) λk hk=>hg k (by rw[ho];simp[Op.operands,hk]);rw[ex]at r1;simp only[RepV,RepC,RepD]at r1;obtain⟨r1,r2⟩:=r1;have hrun:=run_convert_string_bytes (P:=P) w S U e s hs hd he;have hheap:(bytesWorld w e s).heap=w.heap.push (.cells (bytesCells w e s) e ((bytesCells w e s).size,(bytesCells w e s).size+1)):=by
  apply Array.ext_getElem?;intro i;rcases Nat.lt_trichotomy i w.heap.size with g|g|g
  ·rw[bytesWorld_at_old w e s i g,Array.getElem?_push_lt g,bH g]
  ·subst g;rw[bytesWorld_at_new];simp
  ·rw[af (by rw[bytesWorld_size];omega),af (by simp;omega)]
 obtain⟨H,S0⟩:=hr.pushP (.cells (bytesCells w e s) e ((bytesCells w e s).size,(bytesCells w e s).size+1));have hge:=grownCap_ge w s.size 0 e;refine⟨_,ρ,bytesWorld w e s,.slice (some ⟨w.heap.size,0,none⟩) s.size (grownCap w s.size 0 e),?_,by rw[hheap];exact S0,by rw[hheap];exact H,⟨rfl,rfl,rfl⟩,?_⟩
 ·unfold execOp;rw[ho];refine dz ?_ (dx _);rw[r1];exact hrun
 ·simp only[RepV,RepC,RepD];have hlen:(s.data.toList.map λb:UInt8=>[D.int .u8 b.toNat]).length=s.size:=by simp
  refine⟨some ⟨w.heap.size,0,none⟩,grownCap w s.size 0 e,by rw[hlen],by rw[hlen];exact hge,(λh=>by cases h),by rw[hlen];exact r2,(λh=>by cases h),(λp hp _=>by cases hp;rfl),?_⟩;have e4:cellsAt (upd ph w.heap.size (some (.cells (bytesCells w e s) e ((bytesCells w e s).size,(bytesCells w e s).size+1)))) (some ⟨w.heap.size,0,none⟩)=(s.data.toList.map λb=>Value.int .u8 b.toNat)++List.replicate (grownCap w s.size 0 e-s.size) (.int .u8 0):=by
   simp[cellsAt,hcells,zae,bytesCells]
  rw[e4];have key:∀(l:List UInt8) (t:List Value) (h':PH),RepE h' 1 (l.map λb=>[D.int .u8 b.toNat]) ((l.map λb=>Value.int .u8 b.toNat)++t):=by
   intro l t h'
   induction l with
   |nil=>simp[RepE]
   | cons b l ih=>
    simp only[List.map_cons,List.cons_append,RepE,RepL,RepD,List.drop_succ_cons,List.drop_zero,List.length_cons,List.length_nil,Nat.zero_add,and_true,true_and];refine⟨⟨rfl,?_,?_⟩,ih⟩
    ·simp[IntKind.min,IntKind.signed]
    ·have:=b.toNat_lt;simp[IntKind.max,IntKind.signed,IntKind.bits];omega
  exact key _ _ _
def zfz{s:Nat}{x:MX}{K:List (List AC)->List Nat->Prop}(hK:mH get m s K x){ph:PH}{ρ:RM}{v:Value}(r:RepV ph ρ (X get x) v):∃q l c,v=.slice q l c:=by
 unfold mH at hK;split at hK
 ·rename_i ex;rw[ex]at r;simp only[RepV,RepC,RepD]at r;obtain⟨a,cap,r1,_⟩:=r;exact⟨_,_,_,r1⟩
 ·rename_i ex;rw[ex]at r;simp only[RepV,RepC]at r;obtain⟨p,a,_,r1,_⟩:=r;exact⟨_,_,_,r1⟩
 ·exact hK.elim
theorem ze7{o:Oper}{S U:TypeId}{x:MX}{ox:Operand}(ho:o.op=.convert S U ox)(hc:gY P (.toStr x) (.convert S U ox)=true){K:AV->List Nat->Prop}
  (hK:mH get m 1 (λys rd=>∃l,ww ys=some l/\l.length<=zao/\K (.c (.d (.str ⟨l.toArray⟩))) rd) x):∃v rd,gz P o get m rd [] v/\K v rd:=by
 simp only[gY,aC]at hc;obtain⟨⟨c1,c2⟩,hx⟩:=hc;have hd:=Qw c1;obtain⟨e,hs,he⟩:=Qv c2;obtain⟨ys,rd,⟨l,hl,hlen,kk⟩,hsrc⟩:=EW (P:=P) hK;refine⟨_,_,gz.of_pure λm' h1 ph ρ w a hr hg=>?_,kk⟩;have r1:=jF hx (ph:=ph) (ρ:=ρ) (get:=get) (a:=a) λk hk=>hg k (by rw[ho];simp[Op.operands,hk]);obtain⟨q,len,cap,hv⟩:=zfz hK r1;obtain⟨new,s1,s2,s3,s4⟩:=hsrc (λb' hb'=>h1 b' hb') hr r1;obtain⟨ns,e1,e2⟩:=Qu hl s4 s3;rw[hv]at s1 s2;have hl2:len=ys.length:=by
  have:(Builtin.lenOf (.slice q len cap)).run P w=.ok len w:=rfl;have h3:(Builtin.lenOf (.slice q len cap)).run P w=.ok ys.length w:=s1;rw[this]at h3;cases h3;rfl
 subst hl2;refine⟨.string ⟨l.toArray⟩,?_,?_⟩
 ·unfold execOp;rw[ho];refine dz ?_ (dx _);rw[hv];show(convert S U (.slice q ys.length cap)).run P w=_;rw[run_convert_bytes_string w S U e q ys.length cap hs he hd];cases q with
  | none=>
   have h3:(Builtin.firstCells 1 ys.length (.slice none ys.length cap)).run P w=.ok new.toArray w:=s2 w rfl;have h4:(Builtin.firstCells 1 ys.length (.slice none ys.length cap)).run P w=.ok #[] w:=rfl;rw[h4]at h3;have h5:new=[]:=by
    have:(#[]:Array Value)=new.toArray:=by injection h3
    simpa using bu Array.toList this.symm
   rw[h5]at e1;have h6:ns=[]:=List.map_eq_nil_iff.1 e1.symm;subst h6;subst e2;rfl
  |some q=>
   have h3:(loadCells q (ys.length*1)).run P w=.ok new.toArray w:=s2 w rfl;rw[Nat.mul_one,e1]at h3;rw[run_bytesToString w q ys.length cap ns h3,foldl_push_bytes,e2];congr 2;simp[ByteArray.empty,ByteArray.emptyWithCapacity];rfl
 ·simp only[RepV,RepC,RepD];exact⟨trivial,hlen⟩
def zfA{o:Oper}{T U:TypeId}{x:MX}{ox:Operand}(ho:o.op=.makeInterface U ox)(hc:gY P (.mkifc T false x) (.makeInterface U ox)=true){b off:Nat}{cs:List AC}{ds:List D}{l:List Nat}
  (ex:X get x=.c (.ptr b off)) (em:m b=.box cs) (ef:mQ m cs=some (ds,l)) (hb:b∉l):gz P o get m [] ((l++[b]).map λj=>(j,.dead)) (.c (.d (.ifc T false [.rp ds off]))):=by
 simp only[gY,aC,aV]at hc;obtain⟨⟨rfl,c1⟩,hx⟩:=hc;refine gz.of_value λm' h1 h2 ph ρ w a hr hg=>?_;have r1:=jF hx (ph:=ph) (ρ:=ρ) (get:=get) (a:=a) λk hk=>hg k (by rw[ho];simp[Op.operands,hk]);rw[ex]at r1;simp only[RepV,RepC]at r1;obtain⟨q,e1,e2⟩:=r1;have em':m' b=.box cs:=(h2 (b,.dead) (by simp)).trans em;have ef':mQ m' cs=some (ds,l):=KX ef λj hj=>h2 (j,.dead) (by simp[hj]);have how:=hr.own b q e1;rw[em']at how;obtain⟨vs,V,g1,g2,g3⟩:=how;obtain⟨h3,K,S,L⟩:=KY ef' hr g3;have em1:jc m' (l.map λj=>(j,.dead)) b=.box cs:=by rw[KW hb,em']
 obtain⟨K4,S4⟩:=K.freeze e1 (show Real (jc m' (l.map λj=>(j,.dead)) b) q by rw[em1];trivial);refine⟨upd h3 q.1 w.heap[q.1]?,ρ,w,.iface T (a.eval ox),?_,?_,?_,fC w,?_⟩
 ·unfold execOp;rw[ho];show fe P (do let v<-Instr.makeInterface T (a.eval ox);pure (Next.value v)) w _ w;unfold Instr.makeInterface;cases hu:P.underlying T with
  |none=>rw[hu]at c1;cases c1
  |some d=>
   refine dz ?_ (dx _);refine(eT hu).bind ?_;rw[hu]at c1;cases d<;>first|exact dx _|cases c1
 ·rw[List.map_append,EZ];exact S.trans S4
 ·rw[List.map_append,EZ];exact K4
 ·simp only[RepV,RepC,RepD];refine⟨[a.eval ox],rfl,rfl,λ_=>rfl,?_⟩;simp only[RepL,and_true];rw[e2];refine⟨rfl,?_⟩;simp only[RepD];refine⟨q.1,0,by simp,?_⟩;have hcs:hcells (upd h3 q.1 w.heap[q.1]?) q.1=vs:=by
   simp only[hcells,zae];rw[g1]
  rw[hcs,List.drop_zero];simpa using fJ S4.hle _ _ [] L
def zeG{o:Oper}{op:BinOp}{T U:TypeId}{ne:Bool}{x:MX}{ox oy:Operand}(ho:o.op=.binOp op T ox oy U)(hc:gY P (.isNil ne x) (.binOp op T ox oy U)=true){l c:Nat}
  (ex:X get x=.c (.d (.sc (.slice none l c)))):gz P o get m [] [] (.c (.d (.bool !ne))):=by
 simp only[gY,aC,aI]at hc;obtain⟨⟨⟨hop,hx⟩,hy⟩,ht⟩:=hc;split at hy
 ·split at ht
  ·rename_i E hu;refine gz.of_pure λm' h1 ph ρ w ac hr hg=>?_;have r1:=jF hx (ph:=ph) (ρ:=ρ) (get:=get) (a:=ac) λk hk=>hg k (by rw[ho];simp[Op.operands,hk]);rw[ex]at r1;simp only[RepV,RepC,RepD]at r1;refine⟨.bool ((none:Option Addr).isNone^^ne),?_,?_⟩
   ·unfold execOp;rw[ho];refine dz (a:=.bool ((none:Option Addr).isNone^^ne)) ?_ (dx _);show fe P (do eqGuard op T ox (.const (.slice none 0 0)) (ac.eval ox) (.slice none 0 0);binOp op T (ac.eval ox) (.slice none 0 0)) w _ w;rw[r1];refine dz (a:=()) (w':=w) ?_ ?_
    ·unfold eqGuard;split<;>exact dx _
    ·show(binOp op T _ _).run P w=_;have hrun:=KS hu w none l c;cases ne
     ·simp only[au,if_false]at hop;subst hop;show(do pure (Value.bool (<-Op.equal T (.slice none l c) (.slice none 0 0))):Sem Value).run P w=_;rw[Sem.run_bind,hrun];rfl
     ·simp only[if_true]at hop;subst hop;show(do pure (Value.bool (!(<-Op.equal T (.slice none l c) (.slice none 0 0)))):Sem Value).run P w=_;rw[Sem.run_bind,hrun];rfl
   ·simp only[RepV,RepC,RepD];cases ne<;>rfl
  ·cases ht
 ·cases hy
end
end Go.Abs
namespace Go.Abs
variable [jQ]
section
variable {P:Program} {get:Nat->AV} {m:Hp} {n:Nat}
def Qx{ph:PH}{ρ:RM}{a:Act}:∀{xs:List MX} {os:List Operand} {cs:List AC},uW xs os=true->(∀k,Operand.tmp k∈os->RepV ph ρ (get k) (a.tmps.getD k undef))->zK get xs=some cs->
 gK ph ρ cs (os.map a.eval)/\(os.map a.eval).length=cs.length
|[],[],cs,_,_,e=>by simp only[zK]at e;cases e;simp[gK]
|[],_::_,_,h,_,_=>by simp[uW]at h
|_::_,[],_,h,_,_=>by simp[uW]at h
| x::xs,o::os,cs,h,hg,e=>by
 simp only[uW,aC]at h;simp only[zK]at e;split at e
 ·rename_i c r h1 h2;split at e
  ·rename_i h3;cases e;have r1:=jF h.1 (ph:=ph) (ρ:=ρ) (get:=get) (a:=a) λk hk=>hg k (by simp[hk]);rw[h1]at r1;simp only[RepV]at r1;obtain⟨i1,i2⟩:=Qx h.2 (λk hk=>hg k (by simp[hk])) h2;simp only[List.map_cons,gK,List.length_cons];exact⟨⟨⟨AC.one_ok r1 h3,r1⟩,i1⟩,by rw[i2]⟩
  ·cases e
 ·cases e
def Qy{o:Oper}{fn:Fn}{f:FuncId}{first captured:Array Operand}{caps:List MX}(ho:o.op=.makeFunc fn first captured)(hc:gY P (.mkfn f caps) (.makeFunc fn first captured)=true){cs:List AC}(e:zK get caps=some cs):
  gz P o get m [] [] (.c (.fn (.func f) cs)):=by
 simp only[gY,aC]at hc;obtain⟨⟨c0,c1⟩,c2⟩:=hc;split at c0
 ·rename_i g;simp only[aV]at c0;subst c0;refine gz.of_pure λm' h1 ph ρ w a hr hg=>?_;obtain⟨i1,i2⟩:=Qx (ph:=ph) (ρ:=ρ) (a:=a) c2 (λk hk=>hg k (by rw[ho];simp only[Op.operands];simp at hk⊢;exact .inr hk)) e;have hfirst:first=#[]:=by simpa using c1
  refine⟨.func (.func f) #[] (captured.map a.eval),?_,?_⟩
  ·unfold execOp;rw[ho];refine dz ?_ (dx _);show fe P (Instr.makeFunc (.func f) (first.map a.eval) (captured.map a.eval)) w _ w;rw[hfirst];unfold Instr.makeFunc;simp only[List.map_toArray,List.map_nil];exact dx _
  ·simp only[RepV,RepC];refine⟨captured.toList.map a.eval,?_,i2,i1⟩;congr 1;apply cu;simp
 ·cases c0
def KZ{ph:PH}{ρ:RM}{f:Fn}{ds:List D}{v:Value}(r:RepV ph ρ (.c (.fn f (ds.map .d))) v):RepV ph ρ (.c (.d (.fn f ds))) v:=by
 simp only[RepV,RepC,RepD]at r⊢;obtain⟨vs,e1,e2,e3⟩:=r;exact⟨vs,e1,by simpa using e2,gK.to_D e3⟩
def gz.weaken{o:Oper}{rd:List Nat}{wr:List (Nat × Blk)}{v v':AV}(h:gz P o get m rd wr v)(hv:∀{ph:PH} {ρ:RM} {x:Value},RepV ph ρ v x->RepV ph ρ v' x):gz P o get m rd wr v':=
 λm' h1 h2 ph ρ w a hr hG hS hg next Q hn=>h m' h1 h2 ph ρ w a hr hG hS hg next Q λh' ρ' w' vC s k e p=>hn h' ρ' w' vC s k e (hv p)
def Qz{o:Oper}{f:FuncId}{ds:List DV}{v:DV}(hp:fu P f ds v)(H:∀(ph:PH) (ρ:RM) (w:World) (a:Act),(∀k,Operand.tmp k∈o.op.operands->RepV ph ρ (get k) (a.tmps.getD k undef))->
  ∃args:List Value,ja ph ds args/\fe P (execOp a.eval o) w (.enter f args.toArray) w):gz P o get m [] [] v.av:=by
 intro m' h1 h2 ph ρ w a hr hG hS hg next Q hn;obtain⟨args,ra,hrun⟩:=H ph ρ w a hg;obtain⟨_,hp⟩:=hp;unfold Oper.wp;rw[show(execOp a.eval o).run P w=.ok (.enter f args.toArray) w from hrun];rw[Oper.upon_enter];refine(hp ph w args hr.pers hG (jQ.mono hS (eZ _) (aK _) λ_ _ _=>⟨rfl,rfl,trivial⟩) ra).mono λe w' hh=>?_;obtain⟨vC,h',e1,e2,e3,e4,e5,e6,e7,e8⟩:=hh;subst e1;have K:HRel h' ρ m' w'.heap:=hr.grow e2 e4 (λB hB _=>⟨e6 B hB,e3 B hB⟩);have S:Step ph ρ m' w.heap h' ρ m' w'.heap:=⟨e2,λB hB _=>e3 B hB,fA ρ,e5,λB hB _=>e6 B hB,λb p hp hr=>.inr ⟨b,p,hp,hr,rfl⟩⟩
 exact hn h' ρ w' vC S K e7 (jZ.av e8)
def DY{f:FuncId}{args:Array Value}{w:World}(h:callee P f=true):fe P (callFunc f args) w (.enter f args) w:=by
 unfold callee at h;unfold callFunc;refine fe.program.bind ?_;split at h
 ·rename_i fn hfn;simp only[aC,bne_iff_ne,ne_eq]at h;rw[hfn];dsimp only;rw[aA (by simpa using h.1),aA (by
   have:=h.2
   cases hb:fn.body<;>simp_all)]
  exact dx _
 ·cases h
def ja.length{h:PH}:∀{xs:List DV} {vs:List Value},ja h xs vs->vs.length=xs.length
|[],vs,r=>by simp[ja]at r;simp[r]
|_::_,[],r=>by simp[ja]at r
|x::xs,v::vs,r=>by simp only[ja]at r;simp[ja.length r.2]
def zfr{o:Oper}{c:Call}{f:FuncId}{xs:List MX}(ho:o.op=.call c)(hc:gY P (.call f xs) (.call c)=true){ds:List DV}(e:xP (xs.map (X get))=some ds){v:DV}(hp:fu P f ds v):gz P o get m [] [] v.av:=by
 simp only[gY,aC]at hc;obtain⟨c0,c1⟩:=hc;split at c0
 ·rename_i g hg;simp only[aV]at c0;subst c0;refine Qz hp λph ρ w a hr=>?_;have rv:=Cx c1 (ph:=ph) (ρ:=ρ) (get:=get) (a:=a) λk hk=>hr k (by rw[ho];simp[Op.operands,Call.operands,hg];simpa using hk);refine⟨_,KE e rv,?_⟩;unfold execOp;rw[ho];show fe P (do let d<-resolve a.eval c o.type;invoke d.target d.args) w _ w;unfold resolve;rw[hg];refine(dx _).bind ?_;have e1:(c.args.toList.map a.eval).toArray=c.args.map a.eval:=by apply cu;simp
  rw[e1];simp only[invoke,dF,Array.append_empty];have:=DY (w:=w) (args:=c.args.map a.eval) hp.1;simpa using this
 ·cases c0
def RA{op:BinOp}{T:TypeId}{k:IntKind}{i j:Int}{x y:MX}{d:D}(ex:X get x=.c (.d (.int k i)))(ey:X get y=.c (.d (.int k j)))(H:∀(ph:PH) (w:World),k.min<=i/\i<=k.max->k.min<=j/\j<=k.max->∃v,fe P (binOp op T (.int k i) (.int k j)) w v w/\RepD ph d v)
  (ph:PH) (ρ:RM) (a b:Value) (w:World) (ra:RepV ph ρ (X get x) a) (rb:RepV ph ρ (X get y) b):¬(a=.nilIface/\b=.nilIface)/\(∀c d,¬(a=.agg c/\b=.agg d))/\∃v,fe P (binOp op T a b) w v w/\RepD ph d v:=by
 rw[ex]at ra;rw[ey]at rb;simp only[RepV,RepC,RepD]at ra rb;rw[ra.1,rb.1];exact⟨(by rintro⟨h,_⟩;cases h),(by rintro c d ⟨h,_⟩;cases h),H ph w ra.2 rb.2⟩
def zgs{op:BinOp}{T:TypeId}{k k':IntKind}{i j:Int}{x y:MX}{d:D}(ex:X get x=.c (.d (.int k i)))(ey:X get y=.c (.d (.int k' j)))(H:∀(ph:PH) (w:World),k.min<=i/\i<=k.max->∃v,fe P (binOp op T (.int k i) (.int k' j)) w v w/\RepD ph d v)
  (ph:PH) (ρ:RM) (a b:Value) (w:World) (ra:RepV ph ρ (X get x) a) (rb:RepV ph ρ (X get y) b):¬(a=.nilIface/\b=.nilIface)/\(∀c d,¬(a=.agg c/\b=.agg d))/\∃v,fe P (binOp op T a b) w v w/\RepD ph d v:=by
 rw[ex]at ra;rw[ey]at rb;simp only[RepV,RepC,RepD]at ra rb;rw[ra.1,rb.1];exact⟨(by rintro⟨h,_⟩;cases h),(by rintro c d ⟨h,_⟩;cases h),H ph w ra.2⟩
def RD{o:Oper}{T:TypeId}{ag:Bool}{x:MX}{U:TypeId}{ox:Operand}(ho:o.op=.makeInterface U ox)(hc:gY P (.mkifc T ag x) (.makeInterface U ox)=true){ds:List D}
  (ex:(ag=true/\∃cs,X get x=.ag cs/\jC cs=some ds)\/(ag=false/\∃d,X get x=.c (.d d)/\d.one=true/\ds=[d])):gz P o get m [] [] (.c (.d (.ifc T ag ds))):=by
 simp only[gY,aC,aV]at hc;obtain⟨⟨rfl,c1⟩,hx⟩:=hc;refine gz.of_pure λm' h1 ph ρ w a hr hg=>?_;have r1:=jF hx (ph:=ph) (ρ:=ρ) (get:=get) (a:=a) λk hk=>hg k (by rw[ho];simp[Op.operands,hk]);refine⟨.iface T (a.eval ox),?_,?_⟩
 ·unfold execOp;rw[ho];show fe P (do let v<-Instr.makeInterface T (a.eval ox);pure (Next.value v)) w _ w;unfold Instr.makeInterface;cases hu:P.underlying T with
  |none=>rw[hu]at c1;cases c1
  |some d=>
   refine dz ?_ (dx _);refine(eT hu).bind ?_;rw[hu]at c1;cases d<;>first|exact dx _|cases c1
 ·simp only[RepV,RepC,RepD];rcases ex with⟨rfl,cs,e,ec⟩|⟨rfl,d,e,h1,rfl⟩
  ·rw[e]at r1;simp only[RepV]at r1;obtain⟨vs,e1,e2,e3⟩:=r1;have e4:=AY ec;subst e4;exact⟨vs,by rw[e1];rfl,by simpa using e2,(λh=>by cases h),gK.to_D e3⟩
  ·rw[e]at r1;simp only[RepV,RepC]at r1;refine⟨[a.eval ox],rfl,rfl,λ_=>rfl,?_⟩;simp only[RepL,and_true];exact⟨D.one_ok r1 h1,r1⟩
def zfs{ph:PH}{ρ:RM}{t:TypeId}{g:Bool}{cs:List D}{v:Value}(r:RepD ph (.ifc t g cs) v):∃u,v=.iface t u/\RepV ph ρ (je g cs) u:=by
 simp only[RepD]at r;obtain⟨vs,e1,e2,e3,e4⟩:=r;refine⟨_,e1,?_⟩;cases g with
 |true=>
  simp only[je,RepV,if_true];exact⟨vs,rfl,by simpa using e2,gK.of_D e4⟩
 | false=>
  match cs,e3 rfl,e2,e4 with
  | [d],_,e2,e4=>
   match vs,e2,e4 with
   |[u],_,e4=>
    simp only[RepL,and_true]at e4;simp only[je,List.headD_cons,RepV,RepC];exact e4.2
def zfV{o:Oper}{x:MX}{ox:Operand}{xT T:TypeId}{ok ag:Bool}{z:List D}{i:TypeInfo}{zv:Value}(ho:o.op=.typeAssert ox xT T ok)(hx:gN x ox=true)(hi:P.info? T=some i)(ez:i.zero=some zv)(zr:∀ph ρ,RepV ph ρ (je ag z) zv){td:TypeDesc}(hu:P.underlying T=some td)(hni:∀w,td≠.interface w)
  {t:TypeId} {g:Bool} {cs:List D} (ex:X get x=.c (.d (.ifc t g cs))) (hk:t≠T->ok=true):
  gz P o get m [] [] (if t=T then(if ok then .tup [je g cs,.c (.d (.bool true))]else je g cs)else .tup [je ag z,.c (.d (.bool false))]):=by
 refine gz.of_pure λm' h1 ph ρ w a hr hg=>?_;have r1:=jF hx (ph:=ph) (ρ:=ρ) (get:=get) (a:=a) λk hk=>hg k (by rw[ho];simp[Op.operands,hk]);rw[ex]at r1;simp only[RepV,RepC]at r1;obtain⟨u,e1,e2⟩:=zfs (ρ:=ρ) r1;have run:∀v,fe P (Instr.typeAssert (.iface t u) xT T ok) w v w->fe P (execOp a.eval o) w (.value v) w:=λv h=>by
  unfold execOp;rw[ho];show fe P (do let v<-Instr.typeAssert (a.eval ox) xT T ok;pure (Next.value v)) w _ w;rw[e1];exact h.bind (dx _)
 by_cases ht:t=T
 ·rw[aB ht];refine⟨if ok then .tuple #[u,.bool true]else u,run _ ?_,?_⟩
  ·unfold Instr.typeAssert;refine(eT hu).bind ?_;cases td<;>first|exact absurd rfl (hni _)|(simp only;rw[aB ht];exact dx _)
  ·cases ok
   ·exact e2
   ·simp only[if_true,RepV];exact⟨[u,.bool true],rfl,by simp[zad,RepV,RepC,RepD,e2]⟩
 ·rw[aA ht];have hk:=hk ht;subst hk;refine⟨.tuple #[zv,.bool false],run _ ?_,?_⟩
  ·unfold Instr.typeAssert;refine(eT hu).bind ?_;cases td<;>first|exact absurd rfl (hni _)|(simp only;rw[aA ht];simp only[if_true];exact(fE hi ez).bind (dx _))
  ·simp only[RepV];exact⟨[zv,.bool false],rfl,by simp[zad,RepV,RepC,RepD,zr]⟩
def zft{ph:PH}{t:TypeId}{g:Bool}{cs:List D}{v:Value}(r:RepD ph (.ifc t g cs) v):∃u,v=.iface t u/\jZ ph (AZ g cs) u:=by
 simp only[RepD]at r;obtain⟨vs,e1,e2,e3,e4⟩:=r;refine⟨_,e1,?_⟩;cases g with
 |true=>
  simp only[AZ,if_true,jZ];exact⟨vs,rfl,e2,e4⟩
 | false=>
  match cs,e3 rfl,e2,e4 with
  | [d],_,e2,e4=>
   match vs,e2,e4 with
   |[u],_,e4=>
    simp only[RepL,and_true]at e4;simp only[AZ,List.headD_cons,jZ];exact e4.2
def zfu{o:Oper}{c:Call}{x:MX}{ox:Operand}{name:String}{f:FuncId}(ho:o.op=.call c)(hcal:c.callee=.invoke ox name)(hargs:c.args=#[])(hx:gN x ox=true){t:TypeId}{g:Bool}{cs:List D}(ex:X get x=.c (.d (.ifc t g cs)))
  (hm:∀(u:Value) (w:World),fe P (method (P.types.size+Made.depth) t u name) w (f,u) w) {v:DV} (hp:fu P f [AZ g cs] v):gz P o get m [] [] v.av:=by
 refine Qz hp λph ρ w a hr=>?_;have r1:=jF hx (ph:=ph) (ρ:=ρ) (get:=get) (a:=a) λk hk=>hr k (by rw[ho];simp[Op.operands,Call.operands,hcal,hk]);rw[ex]at r1;simp only[RepV,RepC]at r1;obtain⟨u,e1,e2⟩:=zft r1;refine⟨[u],by simp only[ja,and_true];exact e2,?_⟩;unfold execOp;rw[ho];show fe P (do let d<-resolve a.eval c o.type;invoke d.target d.args) w _ w;unfold resolve;rw[hcal,hargs];refine(dx _).bind ?_;rw[e1];simp only[invoke];have e0:(#[Value.iface t u]++Array.map a.eval #[])[0]?=some (.iface t u):=by simp
 rw[e0];simp only;unfold callMethod;refine fe.program.bind ?_;refine(hm u w).bind ?_;simpa using DY (w:=w) (args:=#[u]) hp.1
def zfv{o:Oper}{c:Call}{s:Nat}{x y:MX}(ho:o.op=.call c)(hc:gY P (.copy s x y) (.call c)=true){b off len:Nat}{es:List (List AC)}(ex:X get x=.c (.msl s b off len))(em:m b=.arr s es)(hlen:off+len<=es.length){K:AV->List Nat->List (Nat × Blk)->Prop}
  (hK:mH get m s (λys rd=>ys.length<=len/\K (.c (.d (.int .i64 ys.length))) rd [(b,.arr s (es.take off++ys++es.drop (off+ys.length)))]) y):∃v rd wr,gz P o get m rd wr v/\K v rd wr:=by
 simp only[gY]at hc;split at hc
 ·rename_i ox oy T T' hb ha hta;simp only[aC]at hc;obtain⟨⟨hx,hy⟩,hc⟩:=hc;split at hc
  ·rename_i i hi;simp only[aC,aV,aI]at hc;obtain⟨c1,c4⟩:=hc;obtain⟨et,hu,hei⟩:=DR hi;have hargs:c.args=#[ox,oy]:=by rw[<-bE (xs:=c.args),ha]
   have htys:c.argTypes=#[T,T']:=by rw[<-bE (xs:=c.argTypes),hta]
   have ops:∀k,(ox=.tmp k\/oy=.tmp k)->Operand.tmp k∈o.op.operands:=by
    intro k hk;rw[ho];simp only[Op.operands,Call.operands,hb,hargs];rcases hk with hk|hk<;>simp[hk]
   have wrap:∀{a:Act} {w w':World} {v:Value},fe P (Builtin.copy_ #[T,T'] o.type #[a.eval ox,a.eval oy]) w v w'->fe P (execOp a.eval o) w (.value v) w':=by
    intro a w w' v h;unfold execOp;rw[ho];show fe P (do let d<-resolve a.eval c o.type;invoke d.target d.args) w _ w';unfold resolve;rw[hb,hargs,htys];refine(dx _).bind ?_;simp only[invoke,List.map_toArray,List.map_cons,List.map_nil];exact h.bind (dx _)
   obtain⟨ys,rd,⟨hyl,kk⟩,hsrc⟩:=EW (P:=P) hK;refine⟨_,_,_,gz.of_value λm' h1 h2 ph ρ w a hr hg=>?_,kk⟩;have r1:=jF hx (ph:=ph) (ρ:=ρ) (get:=get) (a:=a) λk hk=>hg k (ops k (.inl hk));have r2:=jF hy (ph:=ph) (ρ:=ρ) (get:=get) (a:=a) λk hk=>hg k (ops k (.inr hk));have eb':m' b=.arr s es:=(h2 (b,.arr s (es.take off++ys++es.drop (off+ys.length))) (by simp)).trans em;obtain⟨new,s1,s2,s3,s4⟩:=hsrc (λb' hb'=>h1 b' hb') hr r2;rw[ex]at r1;simp only[RepV,RepC]at r1;obtain⟨p,base,p1,p2,p3,p4,p5⟩:=r1;have how:=hr.own b p p1;rw[eb']at how;have hone:=gp.one s4 s3;have run:∀{w':World},(∀q,base=some q->fe P (Go.storeCells q new 0) w () w')->(base=none->w'=w)->fe P (Builtin.copy_ #[T,T'] o.type #[a.eval ox,a.eval oy]) w (.int .i64 ys.length) w':=by
    intro w' hs hn;unfold Builtin.copy_;rw[p2]
    show fe P (do
     let d<-underlying T
     _) w _ w'
    refine(eT hu).bind ?_;refine dz (show fe P (Builtin.lenOf (a.eval oy)) w ys.length w from s1) ?_;have hmin:Nat.min ys.length len=ys.length:=Nat.min_eq_left hyl;refine(fD hei).bind ?_;rw[hmin];refine dz (show fe P (Builtin.firstCells i.size ys.length (a.eval oy)) w new.toArray w by rw[c1];exact s2 w rfl) ?_;cases base with
    |none=>rw[hn rfl];exact dx _
    |some q=>exact(hs q rfl).bind (dx _)
   have hkl:(ys.length:Int)<=4611686018427387904:=by
    have:es.length<=zao:=by
     rcases how with⟨q1,q2⟩|⟨us,U,g1,g2,g3,g5,g4⟩
     ·rw[q2];simp
     ·exact g5
    unfold zao at this;omega
   have hint:RepV ph ρ (.c (.d (.int .i64 ys.length))) (.int .i64 ys.length):=by
    simp only[RepV,RepC,RepD,IntKind.min,IntKind.max,IntKind.signed,IntKind.bits];refine⟨trivial,?_,?_⟩<;>simp<;>omega
   by_cases hp0:p.2<=off
   ·have hl0:len=0:=by omega
    have hys:ys=[]:=aa.1 (by omega);subst hys;have hnew:new=[]:=aa.1 (by simpa using s3);subst hnew;have hm:upd m' b (.arr s (es.take off++[]++es.drop (off+0)))=m':=by
     funext j;by_cases hj:j=b
     ·subst hj;rw[zae,eb'];simp
     ·rw[zah _ _ hj]
    refine⟨ph,ρ,w,.int .i64 0,wrap (run (λq hq=>dx _) (λ_=>rfl)),?_,?_,fC w,by simpa using hint⟩
    ·show Step ph ρ m' w.heap ph ρ (upd m' b (.arr s (es.take off++[]++es.drop (off+0)))) w.heap;rw[hm];exact Step.refl _ _ _ _
    ·show HRel ph ρ (upd m' b (.arr s (es.take off++[]++es.drop (off+0)))) w.heap;rw[hm];exact hr
   ·have hreal:Real (m' b) p:=by rw[eb'];show 0<p.2;omega
    have hbase:=p4 (by omega);subst hbase;rcases how with⟨q1,q2⟩|⟨us,U,g1,g2,g3,g5,g4⟩
    ·omega
    have hm3:(off+ys.length)*s<=p.2*s:=bL s (by omega);rw[bD]at hm3;have hle:off*s+new.length<=us.length:=by omega
    have hrep:zaj ph ρ p (.arr s (es.take off++ys++es.drop (off+ys.length))) (w.heap.setIfInBounds p.1 (.cells (Abs.splice us (off*s) new).toArray U (0,0))):=by
     refine .inr ⟨_,U,Cw _ _ (hr.real_lt p1 hreal),by rw[zG];exact g2,by simp;omega,by simp;omega,?_⟩;rw[Gz _ _ _ hle];have htl:(es.take off).length=off:=by simp;omega
     have ht:(us.take (off*s)).length=(es.take off).length*s:=by
      rw[htl,List.length_take];omega
     have h4:=(g4.takeEs off).takeAll;rw[htl]at h4;refine gp.append (gp.append h4 ht s4) (by rw[aR,aR,ht,s3,bD]) ?_;have:=g4.drop (off+ys.length);rw[s3,<-bD];exact this
    obtain⟨K1,S1⟩:=hr.set (.cells (Abs.splice us (off*s) new).toArray U (0,0)) p1 hreal (blk:=.arr s (es.take off++ys++es.drop (off+ys.length))) (by simp) hrep;refine⟨ph,ρ,{w with heap:=w.heap.setIfInBounds p.1 (.cells (Abs.splice us (off*s) new).toArray U (0,0))},.int .i64 ys.length,wrap (run (λq hq=>?_) (λh=>by cases h)),S1,K1,fC w,hint⟩;cases hq;exact fe.storeAt g1 hle hone
  ·cases hc
 ·cases hc
def BV{K:AV->List Nat->List (Nat × Blk)->Nat->Prop}{mo:mP}{o:Oper}(hc:gY P mo o.op=true)(hK:ev P get m n K mo):∃v rd wr n',gz P o get m rd wr v/\K v rd wr n':=by
 cases mo with
 | toBs x=>
  cases ho:o.op<;>rw[ho]at hc<;>first|(simp[gY]at hc;done)|skip
  simp only[ev]at hK;split at hK
  ·rename_i s ex;exact⟨_,_,_,_,zfy ho hc ex,hK⟩
  ·exact hK.elim
 |toStr x=>
  cases ho:o.op<;>rw[ho]at hc<;>first|(simp[gY]at hc;done)|skip
  simp only[ev]at hK;obtain⟨v,rd,h1,h2⟩:=ze7 (K:=λv rd=>K v rd [] n) ho hc hK;exact⟨_,_,_,_,h1,h2⟩
 |mv x=>
  cases ho:o.op<;>rw[ho]at hc<;>first|(simp[gY]at hc;done)|skip
  ·exact⟨_,_,_,_,QY (.inl ho) (by simpa[gY]using hc),hK⟩
  ·exact⟨_,_,_,_,QY (.inr ho) (by simpa[gY]using hc),hK⟩
 | pick c a b=>
  cases ho:o.op<;>rw[ho]at hc<;>first|(simp[gY]at hc;done)|skip
  simp only[gY,aC]at hc;simp only[ev]at hK;split at hK
  ·rename_i t et;refine⟨_,[],[],n,zfw ho hc.1.1 hc.1.2 hc.2 et,?_⟩;cases t
   ·exact hK.2 rfl
   ·exact hK.1 rfl
  ·exact hK.elim
 | binI op x y=>
  cases ho:o.op<;>rw[ho]at hc<;>first|(simp[gY]at hc;done)|skip
  simp only[gY,aC,aI]at hc;obtain⟨⟨c0,c1⟩,c2⟩:=hc;subst c0;simp only[ev]at hK;split at hK
  ·rename_i k i k' j ex ey;obtain⟨k1,hK⟩:=hK;subst k1;split at hK
   ·rename_i d hd;exact⟨_,_,_,_,DK ho c1 c2 (RA ex ey λph w _ _=>zf1 hd _ ph),hK⟩
   ·exact hK.elim
  ·exact hK.elim
 | divI op x y=>
  cases ho:o.op<;>rw[ho]at hc<;>first|(simp[gY]at hc;done)|skip
  simp only[gY,aC,aI,bS]at hc;obtain⟨⟨⟨c0,c3⟩,c1⟩,c2⟩:=hc;subst c0;simp only[ev]at hK;split at hK
  ·rename_i k i k' j ex ey;obtain⟨k1,k2,hK⟩:=hK;subst k1;refine⟨_,[],[],n,DK ho c1 c2 (RA ex ey λph w h1 h2=>zfQ c3 k2 h1 h2 _ ph),?_⟩;rcases c3 with rfl|rfl
   ·rw[aB rfl];exact hK
   ·rw[aA (by decide)];exact hK
  ·exact hK.elim
 | shI op x y=>
  cases ho:o.op<;>rw[ho]at hc<;>first|(simp[gY]at hc;done)|skip
  simp only[gY,aC,aI,bS]at hc;obtain⟨⟨⟨c0,c3⟩,c1⟩,c2⟩:=hc;subst c0;simp only[ev]at hK;split at hK
  ·rename_i k i k' j ex ey;obtain⟨k2,hK⟩:=hK;refine⟨_,[],[],n,DK ho c1 c2 (zgs ex ey λph w h1=>zf2 c3 k2 h1 _ ph),?_⟩;rcases c3 with rfl|rfl
   ·rw[aB rfl];exact hK
   ·rw[aA (by decide)];exact hK
  ·exact hK.elim
 | binS op x y=>
  cases ho:o.op<;>rw[ho]at hc<;>first|(simp[gY]at hc;done)|skip
  simp only[gY,aC,aI]at hc;obtain⟨⟨c0,c1⟩,c2⟩:=hc;subst c0;simp only[ev]at hK;split at hK
  ·rename_i i j ex ey;split at hK
   ·rename_i d hd;refine⟨_,_,_,_,DK ho c1 c2 (λph ρ a b w ra rb=>?_),hK⟩;rw[ex]at ra;rw[ey]at rb;simp only[RepV,RepC,RepD]at ra rb;rw[ra.1,rb.1];exact⟨(by rintro⟨h,_⟩;cases h),(by rintro c d ⟨h,_⟩;cases h),zf3 hd _ ph⟩
   ·exact hK.elim
  ·exact hK.elim
 | cat x y=>
  cases ho:o.op<;>rw[ho]at hc<;>first|(simp[gY]at hc;done)|skip
  simp only[gY,aC,aI]at hc;obtain⟨⟨c0,c1⟩,c2⟩:=hc;subst c0;simp only[ev]at hK;split at hK
  ·rename_i i j ex ey;obtain⟨k1,hK⟩:=hK;refine⟨_,_,_,_,DK ho c1 c2 (λph ρ a b w ra rb=>?_),hK⟩;rw[ex]at ra;rw[ey]at rb;simp only[RepV,RepC,RepD]at ra rb;rw[ra.1,rb.1];exact⟨(by rintro⟨h,_⟩;cases h),(by rintro c d ⟨h,_⟩;cases h),uX k1 _ ph⟩
  ·exact hK.elim
 | binB op x y=>
  cases ho:o.op<;>rw[ho]at hc<;>first|(simp[gY]at hc;done)|skip
  simp only[gY,aC,aI]at hc;obtain⟨⟨⟨c0,c3⟩,c1⟩,c2⟩:=hc;subst c0;split at c3
  ·rename_i hT;simp only[ev]at hK;split at hK
   ·rename_i i j ex ey;split at hK
    ·rename_i d hd;refine⟨_,_,_,_,DK ho c1 c2 (λph ρ a b w ra rb=>?_),hK⟩;rw[ex]at ra;rw[ey]at rb;simp only[RepV,RepC,RepD]at ra rb;rw[ra,rb];exact⟨(by rintro⟨h,_⟩;cases h),(by rintro c d ⟨h,_⟩;cases h),zf5 hd hT ph⟩
    ·exact hK.elim
   ·exact hK.elim
  ·cases c3
 | not x=>
  cases ho:o.op<;>rw[ho]at hc<;>first|(simp[gY]at hc;done)|skip
  simp only[gY,aC,aI]at hc;obtain⟨c0,c1⟩:=hc;subst c0;simp only[ev]at hK;split at hK
  ·rename_i i ex;refine⟨_,_,_,_,QZ ho c1 (λph ρ a w ra=>?_),hK⟩;rw[ex]at ra;simp only[RepV,RepC,RepD]at ra;rw[ra];exact⟨_,dx _,rfl⟩
  ·exact hK.elim
 | neg x=>
  cases ho:o.op<;>rw[ho]at hc<;>first|(simp[gY]at hc;done)|skip
  simp only[gY,aC,aI]at hc;obtain⟨c0,c1⟩:=hc;subst c0;simp only[ev]at hK;split at hK
  ·rename_i k i ex;refine⟨_,_,_,_,QZ ho c1 (λph ρ a w ra=>?_),hK⟩;rw[ex]at ra;simp only[RepV,RepC,RepD]at ra;rw[ra.1];refine⟨_,dx _,?_⟩;unfold RepD;exact⟨rfl,Cz _ _⟩
  ·exact hK.elim
 | convI k x=>
  cases ho:o.op<;>rw[ho]at hc<;>first|(simp[gY]at hc;done)|skip
  rename_i S U ox;simp only[gY,aC]at hc;obtain⟨⟨c0,c1⟩,c2⟩:=hc;split at c0
  ·rename_i k' hU;simp only[aI]at c0;subst c0;split at c1
   ·rename_i d hS;simp only[ev]at hK;split at hK
    ·rename_i k' i ex;refine⟨_,_,_,_,gz.of_pure λm' h1 ph ρ w a hr hg=>?_,hK⟩;have r1:=jF c2 (ph:=ph) (ρ:=ρ) (get:=get) (a:=a) λk hk=>hg k (by rw[ho];simp[Op.operands,hk]);rw[ex]at r1;simp only[RepV,RepC,RepD]at r1;refine⟨.int k (k.wrap i),?_,?_⟩
     ·unfold execOp;rw[ho];refine dz ?_ (dx _);show fe P (convert S U (a.eval ox)) w _ w;rw[r1.1];exact fe.convert_int hS hU
     ·simp only[RepV,RepC];unfold RepD;exact⟨rfl,Cz _ _⟩
    ·exact hK.elim
   ·cases c1
  ·cases c0
 | boxP x=>
  cases ho:o.op<;>rw[ho]at hc<;>first|(simp[gY]at hc;done)|skip
  simp only[ev]at hK;split at hK
  ·rename_i ds e;exact⟨_,_,_,_,zfZ ho (by simpa[gY]using hc) e,hK⟩
  ·exact hK.elim
 | boxM x=>
  cases ho:o.op<;>rw[ho]at hc<;>first|(simp[gY]at hc;done)|skip
  simp only[ev]at hK;split at hK
  ·rename_i cs e;exact⟨_,_,_,_,zfC ho (by simpa[gY]using hc) e hK.1,hK.2⟩
  ·exact hK.elim
 | alloc z=>
  cases ho:o.op<;>rw[ho]at hc<;>first|(simp[gY]at hc;done)|skip
  simp only[gY]at hc;split at hc
  ·rename_i i hi;simp only[aC]at hc;simp only[ev]at hK;exact⟨_,_,_,_,ze8 ho hi hc.1 hc.2 hK.1,hK.2⟩
  ·cases hc
 | build z ps=>
  cases ho:o.op<;>rw[ho]at hc<;>first|(simp[gY]at hc;done)|skip
  simp only[ev]at hK;split at hK
  ·rename_i cs e;exact⟨_,_,_,_,zeS ho hc e,hK⟩
  ·exact hK.elim
 | buildSl s xs=>
  cases ho:o.op<;>rw[ho]at hc<;>first|(simp[gY]at hc;done)|skip
  simp only[ev]at hK;split at hK
  ·rename_i es e;exact⟨_,_,_,_,zea ho hc e,hK⟩
  ·exact hK.elim
 | buildSlM s xs=>
  cases ho:o.op<;>rw[ho]at hc<;>first|(simp[gY]at hc;done)|skip
  simp only[ev]at hK;split at hK
  ·rename_i es e;exact⟨_,_,_,_,zd2 ho (by simpa only[gY]using hc) e hK.1,hK.2⟩
  ·exact hK.elim
 |load ag sz x=>
  cases ho:o.op<;>rw[ho]at hc<;>first|(simp[gY]at hc;done)|skip
  simp only[gY,aC,aV]at hc;obtain⟨v,rd,h1,h2⟩:=zfB (m:=m) (K:=λv rd=>K v rd [] n) ho hc.1 hc.2 hK;exact⟨v,rd,[],n,h1,h2⟩
 | store sz x y=>
  cases ho:o.op<;>rw[ho]at hc<;>first|(simp[gY]at hc;done)|skip
  simp only[gY,aC]at hc;obtain⟨⟨c0,c1⟩,c2⟩:=hc;split at c0
  ·rename_i i hi;simp only[aC,aV,aI]at c0;obtain⟨wr,h1,h2⟩:=ze9 (m:=m) (K:=λwr=>K (.c (.d .any)) [] wr n) ho hi c0.1 c0.2 c1 c2 hK;exact⟨_,[],wr,n,h1,h2⟩
  ·cases c0
 |faddr off x=>
  cases ho:o.op<;>rw[ho]at hc<;>first|(simp[gY]at hc;done)|skip
  obtain⟨v,h1,h2⟩:=zfb (m:=m) (K:=λv=>K v [] [] n) ho hc hK;exact⟨v,[],[],n,h1,h2⟩
 |iaddrS s x i=>
  cases ho:o.op<;>rw[ho]at hc<;>first|(simp[gY]at hc;done)|skip
  obtain⟨v,h1,h2⟩:=zeI (m:=m) (K:=λv=>K v [] [] n) ho hc hK;exact⟨v,[],[],n,h1,h2⟩
 |iaddrA len s x i=>
  cases ho:o.op<;>rw[ho]at hc<;>first|(simp[gY]at hc;done)|skip
  obtain⟨v,h1,h2⟩:=zeJ (m:=m) (K:=λv=>K v [] [] n) ho hc hK;exact⟨v,[],[],n,h1,h2⟩
 | idxS x i=>
  cases ho:o.op<;>rw[ho]at hc<;>first|(simp[gY]at hc;done)|skip
  simp only[ev]at hK;split at hK
  ·rename_i t k j ex ei;obtain⟨k1,hK⟩:=hK;split at hK
   ·rename_i b hb;exact⟨_,_,_,_,zfD ho hc ex ei k1 hb,hK⟩
   ·exact hK.elim
  ·exact hK.elim
 |len x=>
  cases ho:o.op<;>rw[ho]at hc<;>first|(simp[gY]at hc;done)|skip
  obtain⟨v,rd,h1,h2⟩:=zfS (m:=m) (K:=λv rd=>K v rd [] n) ho hc hK;exact⟨v,rd,[],n,h1,h2⟩
 | lenS x=>
  cases ho:o.op<;>rw[ho]at hc<;>first|(simp[gY]at hc;done)|skip
  simp only[ev]at hK;split at hK
  ·rename_i t ex;exact⟨_,_,_,_,zfq ho hc ex,hK⟩
  ·exact hK.elim
 | nilck x=>
  cases ho:o.op<;>rw[ho]at hc<;>first|(simp[gY]at hc;done)|skip
  rename_i ox;have hx:gN x ox=true:=by simpa only[gY]using hc
  simp only[ev]at hK;split at hK
  ·rename_i b q ex;refine⟨_,_,_,_,H9 ho hx (λ{ph ρ v} r=>?_),by rw[ex];exact hK⟩;rw[ex]at r;simp only[RepV,RepC]at r;obtain⟨p,_,e⟩:=r;exact⟨_,e⟩
  ·rename_i s b i q ex;refine⟨_,_,_,_,H9 ho hx (λ{ph ρ v} r=>?_),by rw[ex];exact hK⟩;rw[ex]at r;simp only[RepV,RepC]at r;obtain⟨p,_,e⟩:=r;exact⟨_,e⟩
  ·rename_i cs q ex;refine⟨_,_,_,_,H9 ho hx (λ{ph ρ v} r=>?_),by rw[ex];exact hK⟩;rw[ex]at r;simp only[RepV,RepC,RepD]at r;obtain⟨B,p,e,_⟩:=r;exact⟨_,e⟩
  ·rename_i q ex;refine⟨_,_,_,_,H9 ho hx (λ{ph ρ v} r=>?_),by rw[ex];exact hK⟩;rw[ex]at r;simp only[RepV,RepC,RepD]at r;exact⟨_,r⟩
  ·exact hK.elim
 | extract x i=>
  cases ho:o.op<;>rw[ho]at hc<;>first|(simp[gY]at hc;done)|skip
  simp only[gY,aC,aV]at hc;obtain⟨c0,c1⟩:=hc;subst c0;simp only[ev]at hK;split at hK
  ·rename_i vs ex;split at hK
   ·rename_i v hv;exact⟨_,_,_,_,zd9 ho c1 ex hv,hK⟩
   ·exact hK.elim
  ·exact hK.elim
 |slice s x lo hi=>
  cases ho:o.op<;>rw[ho]at hc<;>first|(simp[gY]at hc;done)|skip
  obtain⟨v,h1,h2⟩:=zeZ (m:=m) (K:=λv=>K v [] [] n) ho hc hK;exact⟨v,[],[],n,h1,h2⟩
 | sliceS x lo hi=>
  cases ho:o.op<;>rw[ho]at hc<;>first|(simp[gY]at hc;done)|skip
  simp only[ev]at hK;split at hK
  ·rename_i t ex;obtain⟨v,h1,h2⟩:=zeD (m:=m) (K:=λv=>K v [] [] n) ho hc ex hK;exact⟨v,[],[],n,h1,h2⟩
  ·exact hK.elim
 | append s bytes x y=>
  cases ho:o.op<;>rw[ho]at hc<;>first|(simp[gY]at hc;done)|skip
  simp only[gY]at hc;split at hc
  ·rename_i ox oy T T' hb ha hta;simp only[aC,bg]at hc;obtain⟨⟨⟨⟨c0,c1⟩,c2⟩,c3⟩,c4⟩:=hc;split at c4
   ·rename_i i hi;simp only[aC,aV,aI]at c4;obtain⟨⟨⟨⟨⟨⟨d1,d2⟩,d3⟩,d4⟩,d5⟩,d6⟩,d7⟩:=c4;obtain⟨v,rd,wr,h1,h2⟩:=zeE (m:=m) (n:=n) (K:=λv rd wr=>K v rd wr (n+1)) ho hb ha hta c0 c1 c2 c3 hi d1 d2 d3 d4 d5 d6 d7 hK;exact⟨v,rd,wr,n+1,h1,h2⟩
   ·cases c4
  ·cases hc
 | mkfn f caps=>
  cases ho:o.op<;>rw[ho]at hc<;>first|(simp[gY]at hc;done)|skip
  simp only[ev]at hK;split at hK
  ·rename_i cs e;split at hK
   ·rename_i ds hd;have:=AY hd;subst this;exact⟨_,_,_,_,(Qy ho hc e).weaken KZ,hK⟩
   ·exact⟨_,_,_,_,Qy ho hc e,hK⟩
  ·exact hK.elim
 | call f xs=>
  cases ho:o.op<;>rw[ho]at hc<;>first|(simp[gY]at hc;done)|skip
  simp only[ev]at hK;split at hK
  ·rename_i ds e;obtain⟨v,hp,hK⟩:=hK;exact⟨_,_,_,_,zfr ho hc e hp,hK⟩
  ·exact hK.elim
 |mkmap=>
  cases ho:o.op<;>rw[ho]at hc<;>first|(simp[gY]at hc;done)|skip
  simp only[ev]at hK;exact⟨_,_,_,_,zfd ho (by simpa only[gY]using hc) hK.1,hK.2⟩
 | mlook kk ok ag z x k=>
  cases ho:o.op<;>rw[ho]at hc<;>first|(simp[gY]at hc;done)|skip
  simp only[ev]at hK;split at hK
  ·rename_i b d ex ek;split at hK
   ·rename_i es em;split at hK
    ·rename_i i v hf;exact⟨_,_,_,_,EY ho hc ek (Qj ex em) hf,hK⟩
    ·rename_i hf;exact⟨_,_,_,_,EY ho hc ek (Qj ex em) hf,hK⟩
    ·exact hK.elim
   ·exact hK.elim
  ·rename_i ks us d ex ek;split at hK
   ·rename_i i v hf;exact⟨_,_,_,_,EY ho hc ek (Qk ex) hf,hK⟩
   ·rename_i hf;exact⟨_,_,_,_,EY ho hc ek (Qk ex) hf,hK⟩
   ·exact hK.elim
  ·rename_i d ex ek;exact⟨_,_,_,_,EY (res:=none) ho hc ek (zfg ex) rfl,hK⟩
  ·exact hK.elim
 | mset kk x k v=>
  cases ho:o.op<;>rw[ho]at hc<;>first|(simp[gY]at hc;done)|skip
  all_goals
   simp only[gY,aC]at hc;simp only[ev]at hK;split at hK
   ·rename_i b d ex ek;split at hK
    ·rename_i es em;split at hK
     ·rename_i i v' hf
      first
       |exact⟨_,_,_,_,Hg (.inl ho) hc.1.1.1 hc.1.1.2 hc.1.2 hc.2 ex ek em hf,hK⟩
       |exact⟨_,_,_,_,Hg (.inr ho) hc.1.1.1 hc.1.1.2 hc.1.2 hc.2 ex ek em hf,hK⟩
     ·rename_i hf
      first
       |exact⟨_,_,_,_,Hg (.inl ho) hc.1.1.1 hc.1.1.2 hc.1.2 hc.2 ex ek em hf,hK⟩
       |exact⟨_,_,_,_,Hg (.inr ho) hc.1.1.1 hc.1.1.2 hc.1.2 hc.2 ex ek em hf,hK⟩
     ·exact hK.elim
    ·exact hK.elim
   ·exact hK.elim
 | mkslM z bytes x y=>
  cases ho:o.op<;>rw[ho]at hc<;>first|(simp[gY]at hc;done)|skip
  simp only[ev]at hK;split at hK
  ·rename_i j l ex ey;exact⟨_,_,_,_,zfi ho hc ex ey hK.1 hK.2.1 hK.2.2.1 hK.2.2.2.1,hK.2.2.2.2⟩
  ·exact hK.elim
 |callX f xs=>exact hK.elim
 |calldX x xs=>exact hK.elim
 | tas T ok ag z x=>
  cases ho:o.op<;>rw[ho]at hc<;>first|(simp[gY]at hc;done)|skip
  simp only[ev]at hK;split at hK
  ·rename_i t g cs ex;simp only[gY,aC,aV]at hc;obtain⟨⟨⟨⟨rfl,rfl⟩,hx⟩,hu⟩,hz⟩:=hc;split at hz
   ·rename_i i hi;simp only[aC]at hz;obtain⟨⟨z1,z2⟩,z4⟩:=hz;obtain⟨zv,ez⟩:=bF.1 z1;split at hu
    ·cases hu
    ·rename_i td hne hu';exact⟨_,_,_,_,zfV ho hx hi ez (λph ρ=>Qh (e:=T) ez z2 z4 ph ρ) hu' (λw e=>hne w (e▸rfl)) ex hK.1,hK.2⟩
    ·cases hu
   ·cases hz
  ·exact hK.elim
 | invk name x=>
  cases ho:o.op<;>rw[ho]at hc<;>first|(simp[gY]at hc;done)|skip
  rename_i c;simp only[ev]at hK;split at hK
  ·rename_i t g cs ex;obtain⟨f,v,hm,hp,hK⟩:=hK;simp only[gY,aC]at hc;obtain⟨c0,c1⟩:=hc;split at c0
   ·rename_i ox nm hcal;simp only[aC,aV]at c0;obtain⟨rfl,hx⟩:=c0;have ha:c.args=#[]:=by
     have:c.args.toList=[]:=by simpa using c1
     rw[<-bE (xs:=c.args),this]
    exact⟨_,_,_,_,zfu ho hcal ha hx ex hm hp,hK⟩
   ·cases c0
  ·exact hK.elim
 |panicX x=>exact hK.elim
 | mkifc T ag x=>
  cases ho:o.op<;>rw[ho]at hc<;>first|(simp[gY]at hc;done)|skip
  simp only[ev]at hK;split at hK
  ·rename_i cs ex;split at hK
   ·rename_i ds ed;exact⟨_,_,_,_,RD ho hc (.inl ⟨rfl,cs,ex,ed⟩),hK⟩
   ·exact hK.elim
  ·rename_i d ex;exact⟨_,_,_,_,RD ho hc (.inr ⟨rfl,d,ex,hK.1,rfl⟩),hK.2⟩
  ·rename_i b off ex;split at hK
   ·rename_i cs em;split at hK
    ·rename_i ds l ef;exact⟨_,_,_,_,zfA ho hc ex em ef hK.1,hK.2⟩
    ·exact hK.elim
   ·exact hK.elim
  ·exact hK.elim
 | copy s x y=>
  cases ho:o.op<;>rw[ho]at hc<;>first|(simp[gY]at hc;done)|skip
  simp only[ev]at hK;split at hK
  ·rename_i s' b off len ex;split at hK
   ·rename_i s'' es em;obtain⟨rfl,rfl,h4,hK⟩:=hK;obtain⟨v,rd,wr,h1,h2⟩:=zfv (K:=λv rd wr=>K v rd wr n) ho hc ex em h4 hK;exact⟨v,rd,wr,n,h1,h2⟩
   ·exact hK.elim
  ·exact hK.elim
 | minI mx x y=>
  cases ho:o.op<;>rw[ho]at hc<;>first|(simp[gY]at hc;done)|skip
  simp only[ev]at hK;split at hK
  ·rename_i k a k' b ex ey;obtain⟨rfl,hK⟩:=hK;exact⟨_,_,_,_,zfG ho hc ex ey,hK⟩
  ·exact hK.elim
 | isNilP ne x=>
  cases ho:o.op<;>rw[ho]at hc<;>first|(simp[gY]at hc;done)|skip
  simp only[ev]at hK;split at hK
  ·rename_i ex;exact⟨_,_,_,_,Hl ho hc (.inl ⟨ex,rfl⟩),hK⟩
  ·rename_i cs off ex;exact⟨_,_,_,_,Hl ho hc (.inr ⟨.inl ⟨cs,off,ex⟩,rfl⟩),hK⟩
  ·rename_i b o ex;exact⟨_,_,_,_,Hl ho hc (.inr ⟨.inr (.inl ⟨b,o,ex⟩),rfl⟩),hK⟩
  ·rename_i s b i o ex;exact⟨_,_,_,_,Hl ho hc (.inr ⟨.inr (.inr ⟨s,b,i,o,ex⟩),rfl⟩),hK⟩
  ·exact hK.elim
 | isNil ne x=>
  cases ho:o.op<;>rw[ho]at hc<;>first|(simp[gY]at hc;done)|skip
  simp only[ev]at hK;split at hK
  ·rename_i ex;exact⟨_,_,_,_,Qn ho hc ex (.inr ⟨by simp,rfl⟩),hK⟩
  ·rename_i ex;exact⟨_,_,_,_,Qn ho hc ex (.inl rfl),hK⟩
  ·rename_i ex;exact⟨_,_,_,_,zeG ho hc ex,hK⟩
  ·rename_i ex;exact⟨_,_,_,_,zeK ho hc ex hK.1,hK.2⟩
  ·exact hK.elim
 | eqAg ne ks x y=>
  cases ho:o.op<;>rw[ho]at hc<;>first|(simp[gY]at hc;done)|skip
  simp only[ev]at hK;split at hK
  ·rename_i cs cs' ex ey;split at hK
   ·rename_i a b ea eb;split at hK
    ·rename_i t ht;exact⟨_,_,_,_,zfF ho hc ex ey ea eb ht,hK⟩
    ·exact hK.elim
   ·exact hK.elim
  ·exact hK.elim
 | callM f xs=>
  cases ho:o.op<;>rw[ho]at hc<;>first|(simp[gY]at hc;done)|skip
  simp only[ev,vX]at hK;obtain⟨l,args,bs,v,bs',hp,hnd,hln,hvs,hal,hlt,hat,hfr,hK⟩:=hK;refine⟨_,_,_,_,Qr hp hnd hln hal hlt hat hfr (λph ρ w a hg=>?_),hK⟩;simp only[gY,aC]at hc;obtain⟨c0,c1⟩:=hc;rename_i c;split at c0
  ·rename_i g hg';simp only[aV]at c0;subst c0;have rv:=Cx c1 (ph:=ph) (ρ:=ρ) (get:=get) (a:=a) λk hk=>hg k (by rw[ho];simp[Op.operands,Call.operands,hg'];simpa using hk);refine⟨_,hvs▸rv,?_⟩;unfold execOp;rw[ho];show fe P (do let d<-resolve a.eval c o.type;invoke d.target d.args) w _ w;unfold resolve;rw[hg'];refine(dx _).bind ?_;have e1:(c.args.toList.map a.eval).toArray=c.args.map a.eval:=by apply cu;simp
   rw[e1];simp only[invoke,dF,Array.append_empty];have:=DY (w:=w) (args:=c.args.map a.eval) hp.1;simpa using this
  ·cases c0
 | calldM x xs=>
  cases ho:o.op<;>rw[ho]at hc<;>first|(simp[gY]at hc;done)|skip
  rename_i c;simp only[ev]at hK;have key:∀(f:FuncId) (caps:List AC),X get x=.c (.fn (.func f) caps)\/(∃ds,caps=ds.map .d/\X get x=.c (.d (.fn (.func f) ds)))->vX P f (xs.map (X get)++caps.map .c) m n K->∃v rd wr n',gz P o get m rd wr v/\K v rd wr n':=by
   intro f caps hcap hK;simp only[vX]at hK;obtain⟨l,args,bs,v,bs',hp,hnd,hln,hvs,hal,hlt,hat,hfr,hK⟩:=hK;refine⟨_,_,_,_,Qr hp hnd hln hal hlt hat hfr (λph ρ w a hg=>?_),hK⟩;simp only[gY,aC]at hc;obtain⟨c0,c1⟩:=hc;split at c0
   ·rename_i ox hg';have rx:=jF c0 (ph:=ph) (ρ:=ρ) (get:=get) (a:=a) λk hk=>hg k (by rw[ho];simp[Op.operands,Call.operands,hg',hk]);have rv:=Cx c1 (ph:=ph) (ρ:=ρ) (get:=get) (a:=a) λk hk=>hg k (by rw[ho];simp[Op.operands,Call.operands,hg'];right;simpa using hk);have rcap:∃vs:List Value,a.eval ox=.func (.func f) #[] vs.toArray/\vs.length=caps.length/\gK ph ρ caps vs:=by
     rcases hcap with e|⟨ds,rfl,e⟩
     ·rw[e]at rx;simpa only[RepV,RepC]using rx
     ·rw[e]at rx;simp only[RepV,RepC,RepD]at rx;obtain⟨vs,e1,e2,e3⟩:=rx;exact⟨vs,e1,by simpa using e2,gK.of_D e3⟩
    obtain⟨vs,e1,e2,e3⟩:=rcap;have app:∀(ι:List AV) (us:List Value),zad ph ρ ι us->∀(cs:List AC) (ws:List Value),ws.length=cs.length->gK ph ρ cs ws->zad ph ρ (ι++cs.map .c) (us++ws):=by
     intro ι
     induction ι with
     | nil=>
      intro us hu cs;simp only[zad]at hu;subst hu
      induction cs with
      |nil=>intro ws hl _;cases ws<;>simp_all[zad]
      | cons c cs ih=>
       intro ws hl hr;cases ws with
       |nil=>simp at hl
       |cons w ws=>
        simp only[gK]at hr;simp only[List.nil_append,List.map_cons,zad,RepV];exact⟨hr.1.2,by simpa using ih ws (by simpa using hl) hr.2⟩
     | cons x ι ih=>
      intro us hu cs ws hl hr;cases us with
      |nil=>simp[zad]at hu
      |cons u us=>
       simp only[zad]at hu;simp only[List.cons_append,zad];exact⟨hu.1,ih us hu.2 cs ws hl hr⟩
    refine⟨_,hvs▸app _ _ rv caps vs e2 e3,?_⟩;unfold execOp;rw[ho];show fe P (do let d<-resolve a.eval c o.type;invoke d.target d.args) w _ w;unfold resolve;rw[hg'];simp only[e1];refine(dx _).bind ?_;have e4:(c.args.toList.map a.eval++vs).toArray=c.args.map a.eval++vs.toArray:=by apply cu;simp
    rw[e4];simp only[invoke,dF];exact DY (w:=w) (args:=c.args.map a.eval++vs.toArray) hp.1
   ·cases c0
  split at hK
  ·rename_i f caps ex;exact key f caps (.inl ex) hK
  ·rename_i f caps ex;refine key f (caps.map .d) (.inr ⟨caps,rfl,ex⟩) ?_;rw[dK];exact hK
  ·exact hK.elim
end
end Go.Abs
namespace Go.Abs
variable [jQ]
def look:List (Nat × AV)->Nat->AV
|[],_=>.c (.d .any)
|(k,v)::l,j=>if j=k then v else look l j
structure St where
 t:List (Nat × AV)
 m:Hp
 n:Nat
def St.get(S:St)(k:Nat):AV:=look S.t k
structure MO where
 g:Option (Nat × Bool)
 dst:Option Nat
 op:mP
def St.put(S:St)(dst:Option Nat)(v:AV)(wr:List (Nat × Blk))(n:Nat):St:=
⟨match dst with|some d=>(d,v)::S.t|none=>S.t,jc S.m wr,n⟩
def kQ:AV:=.c (.d (.sc undef))
def St.know(S:St)(t:Nat)(b:Bool):St:=⟨(t,.c (.d (.bool b)))::S.t,S.m,S.n⟩
def St.know_get{S:St}{t:Nat}{b:Bool}(h:S.get t=.c (.d (.bool b))):(S.know t b).get=S.get:=by
 funext k;unfold St.get St.know at*
 simp only[look];split
 ·rename_i e;rw[e,h]
 ·rfl
def oP(P:Program):List MO->St->(St->Prop)->Prop
|[],S,K=>K S
| o::os,S,K=>match o.g with
 |none=>ev P S.get S.m S.n (λv _ wr n=>oP P os (S.put o.dst v wr n) K) o.op
 |some (t,want)=>match S.get t with
  |.c (.d (.bool b))=>(b=want->ev P (S.know t want).get S.m S.n (λv _ wr n=>oP P os ((S.know t want).put o.dst v wr n) K) o.op)/\(b=(!want)->oP P os ((S.know t (!want)).put o.dst kQ [] S.n) K)
  |.c (.d (.sc (.tuple _)))=>oP P os (S.put o.dst kQ [] S.n) K
  |_=>False
structure Ctx where
 h:PH
 ρ:RM
 m:Hp
 w:World
 N:Nat
 D:List Deferred:=[]
structure kR (P:Program) (c:Ctx) (get:Nat->AV) (m:Hp) (a:Act) (w:World):Prop where
 gnd:Gnd P c.h
 sd:jQ.ok c.h (jm c.ρ c.m) c.w
 defers:a.defers=c.D
 size:a.tmps.size=c.N
 ex:∃(h:PH) (ρ:RM),HRel h ρ m w.heap/\ng c.h c.ρ c.m c.w.heap h ρ m w.heap/\Same c.w w/\∀k,RepV h ρ (get k) (a.tmps.getD k undef)
def kR.side{P:Program}{c:Ctx}{get:Nat->AV}{m:Hp}{a:Act}{w:World}(r:kR P c get m a w){h:PH}{ρ:RM}(S0:ng c.h c.ρ c.m c.w.heap h ρ m w.heap):jQ.ok h (jm ρ m) w:=
 jQ.mono r.sd S0.hle S0.size λB hB hf=>⟨S0.hlow B hB hf,S0.frame B hB hf,S0.free hB hf⟩
def vY(ops:Array Oper):Option (Nat × Bool)->Option (Nat × Bool)->Bool
|none,none=>true
|some (t,b),some (j,b')=>b==b'&&((ops[j]?).bind (·.dst))==some t
|_,_=>false
def zM(P:Program)(N:Nat)(ops:Array Oper)(mo:MO)(o:Oper):Bool:=
 gY P mo.op o.op&&mo.dst==o.dst&&(match mo.dst with|some d=>decide (d<N)|none=>true)&&vY ops mo.g o.guard
def mR(P:Program)(N:Nat)(ops:Array Oper):List MO->List Oper->Bool
|[],[]=>true
|mo::mos,o::os=>zM P N ops mo o&&mR P N ops mos os
|_,_=>false
section
variable {P:Program} {c:Ctx}
def RF{a:Act}{dst:Option Nat}{v:Value}{k:Nat}(h:∀d,dst=some d->d<a.tmps.size):
  (a.put dst v).tmps.getD k undef=if dst=some k then v else a.tmps.getD k undef:=by
 cases dst with
 |none=>simp[Act.put]
 | some d=>
  have hd:=h d rfl;simp only[Act.put,aO];by_cases hk:d=k
  ·subst hk;simp[aT,hd]
  ·rw[aA hk];simp[aT,bM hk]
def RG{a:Act}{dst:Option Nat}{v:Value}:(a.put dst v).tmps.size=a.tmps.size:=by
 cases dst<;>simp[Act.put]
def put_defers{a:Act}{dst:Option Nat}{v:Value}:(a.put dst v).defers=a.defers:=by
 cases dst<;>rfl
def mI(g:Nat->AV)(dst:Option Nat)(v:AV):Nat->AV:=λk=>if dst=some k then v else g k
def St.put_get(S:St)(dst:Option Nat)(v:AV)(wr:List (Nat × Blk))(n:Nat):(S.put dst v wr n).get=mI S.get dst v:=by
 funext k;unfold St.get St.put mI;cases dst with
 |none=>simp
 |some d=>
  simp only[look,aO];by_cases h:k=d
  ·subst h;simp
  ·rw[aA h,aA (Ne.symm h)]
def K3{get:Nat->AV}{m m':Hp}{a:Act}{w w':World}{h h':PH}{ρ ρ':RM}{dst:Option Nat}{v:AV}{vC:Value}(hG:Gnd P c.h)(hsd:jQ.ok c.h (jm c.ρ c.m) c.w)(hdef:a.defers=c.D)(hsz:a.tmps.size=c.N)(hd:∀d,dst=some d->d<c.N)
  (S0:ng c.h c.ρ c.m c.w.heap h ρ m w.heap) (e0:Same c.w w) (hg:∀k,RepV h ρ (get k) (a.tmps.getD k undef)) (S:Step h ρ m w.heap h' ρ' m' w'.heap) (H:HRel h' ρ' m' w'.heap) (e:Same w w') (rv:RepV h' ρ' v vC):
  kR P c (mI get dst v) m' (a.put dst vC) w' where
 gnd:=hG
 sd:=hsd
 defers:=by rw[Go.Abs.put_defers];exact hdef
 size:=by rw[RG];exact hsz
 ex:=by
  refine⟨h',ρ',H,S0.trans S,e0.trans e,λk=>?_⟩;rw[RF (λd h=>by rw[hsz];exact hd d h)];unfold mI;split
  ·exact rv
  ·exact RepV.mono S.hle S.rle _ _ (hg k)
def K5{get:Nat->AV}{m:Hp}{a:Act}{w:World}{dst:Option Nat}(r:kR P c get m a w)(hd:∀d,dst=some d->d<c.N):kR P c (mI get dst kQ) m (a.put dst undef) w where
 gnd:=r.gnd
 sd:=r.sd
 defers:=by rw[Go.Abs.put_defers];exact r.defers
 size:=by rw[RG];exact r.size
 ex:=by
  obtain⟨h,ρ,H,S0,e0,hg⟩:=r.ex;refine⟨h,ρ,H,S0,e0,λk=>?_⟩;rw[RF (λd h=>by rw[r.size];exact hd d h)];unfold mI;split
  ·simp[kQ,RepV,RepC,RepD]
  ·exact hg k
def RH{ops:Array Oper}{a:Act}{j t:Nat}{b:Bool}(h:((ops[j]?).bind (·.dst))=some t)(e:a.tmps.getD t undef=.bool b):yielded ops a.tmps j=some b:=by
 unfold yielded;rw[h];simp only[Option.bind_some];rw[aT]at e;cases ht:a.tmps[t]? with
 |none=>rw[ht]at e;cases e
 |some v=>rw[ht]at e;simp only[Option.getD_some]at e;rw[e]
def zdA{ops:Array Oper}{a:Act}{j t:Nat}{x:Array Value}(h:((ops[j]?).bind (·.dst))=some t)(e:a.tmps.getD t undef=.tuple x):yielded ops a.tmps j=none:=by
 unfold yielded;rw[h];simp only[Option.bind_some];rw[aT]at e;cases ht:a.tmps[t]? with
 |none=>rfl
 |some v=>rw[ht]at e;simp only[Option.getD_some]at e;rw[e]
def DZ{ops:Array Oper}{a:Act}{o:Oper}{g:Option (Nat × Bool)}(h:vY ops g o.guard=true)(hy:∀t b,g=some (t,b)->a.tmps.getD t undef=.bool b):Region.wanted o (yielded ops a.tmps)=true:=by
 unfold Region.wanted;unfold vY at h;split at h
 ·rename_i hg;rw[hg]
 ·rename_i t b j b' hg;simp only[aC,aV]at h;rw[hg];simp only[RH h.2 (hy t b rfl),aV];rw[h.1]
 ·cases h
def E5{ops:Array Oper}{a:Act}{o:Oper}{t:Nat}{b:Bool}(h:vY ops (some (t,b)) o.guard=true)(hy:(a.tmps.getD t undef=.bool (!b))\/∃x,a.tmps.getD t undef=.tuple x):Region.wanted o (yielded ops a.tmps)=false:=by
 unfold Region.wanted;unfold vY at h;split at h
 ·rename_i e _;cases e
 ·rename_i t' b' j b'' e hg;cases e;simp only[aC,aV]at h;obtain⟨h1,h2⟩:=h;subst h1;rw[hg];dsimp only;rcases hy with hy|⟨x,hy⟩
  ·rw[RH h2 hy];cases b<;>rfl
  ·rw[zdA h2 hy];rfl
 ·cases h
def K6{ops:Array Oper}{Q:Exit->Act->World->Prop}{K:St->Prop}(hQ:∀S a w,kR P c S.get S.m a w->K S->Q .normal a w):∀{mos:List MO} {os:List Oper} {i:Nat} {S:St} {a:Act} {w:World},mR P c.N ops mos os=true->
 (∀j o,os[j]?=some o->ops[i+j]?=some o)->oP P mos S K->kR P c S.get S.m a w->wpOps P ops Q (List.range' i os.length) a w
|[],[],i,S,a,w,_,_,h,r=>by simp only[List.length_nil,List.range'_zero,wpOps];exact hQ S a w r h
|[],_::_,_,_,_,_,h,_,_,_=>by simp[mR]at h
|_::_,[],_,_,_,_,h,_,_,_=>by simp[mR]at h
| mo::mos,o::os,i,S,a,w,hc,hi,h,r=>by
 simp only[mR,aC]at hc;obtain⟨hc0,hcs⟩:=hc;simp only[zM,aC,aV]at hc0;obtain⟨⟨⟨c1,c2⟩,c3⟩,c4⟩:=hc0;have hd:∀d,mo.dst=some d->d<c.N:=λd hd=>by rw[hd]at c3;simpa using c3
 have ho:=hi 0 o (by simp);simp only[Nat.add_zero]at ho;have hi':∀j o',os[j]?=some o'->ops[i+1+j]?=some o':=λj o' hj=>by
  have:=hi (j+1) o' (by simpa using hj);rwa[show i+(j+1)=i+1+j from by omega]at this
 simp only[List.length_cons,dA,wpOps,ho];have run:∀S₁:St,S₁.get=S.get->S₁.m=S.m->ev P S.get S.m S.n (λv _ wr n=>oP P mos (S₁.put mo.dst v wr n) K) mo.op->o.wp P a w (wpOps P ops Q (List.range' (i+1) os.length)) Q:=by
  intro S₁ eg em he;obtain⟨v,rd,wr,n',hs,hk⟩:=BV c1 he;obtain⟨ph,ρ,H,S0,e0,hg⟩:=r.ex;refine hs S.m (λ_ _=>rfl) (λ_ _=>rfl) ph ρ w a H (r.gnd.mono S0.hle) (r.side S0) (λk _=>hg k) _ _ λh' ρ' w' vC st K' e rv=>?_;rw[<-c2];refine K6 hQ hcs hi' hk ?_;rw[St.put_get,eg];have e2:(S₁.put mo.dst v wr n').m=jc S.m wr:=by rw[<-em];rfl
  rw[e2];exact K3 r.gnd r.sd r.defers r.size hd S0 e0 hg st K' e rv
 have skip:∀S₁:St,S₁.get=S.get->S₁.m=S.m->oP P mos (S₁.put mo.dst kQ [] S.n) K->wpOps P ops Q (List.range' (i+1) os.length) (a.put o.dst undef) w:=by
  intro S₁ eg em hk;rw[<-c2];refine K6 hQ hcs hi' hk ?_;rw[St.put_get,eg];have e2:(S₁.put mo.dst kQ [] S.n).m=S.m:=by rw[<-em];rfl
  rw[e2];exact K5 r hd
 obtain⟨ph,ρ,H,S0,e0,hg⟩:=r.ex;simp only[oP]at h;split at h
 ·rename_i hgm;rw[hgm]at c4;rw[aB (DZ c4 (λt b hh=>by cases hh))];exact .inl (run S rfl rfl h)
 ·rename_i t want hgm;rw[hgm]at c4;have rt:=hg t;split at h
  ·rename_i b et;rw[et]at rt;simp only[RepV,RepC,RepD]at rt;by_cases hb:b=want
   ·subst hb;rw[aB (DZ c4 (λt' b' hh=>by cases hh;exact rt))];have h1:=h.1 rfl;rw[St.know_get et]at h1;exact .inl (run _ (St.know_get et) rfl h1)
   ·have hb':b=(!want):=by cases b<;>cases want<;>simp_all
    rw[aA (by rw[E5 c4 (.inl (by rw[rt,hb']))];simp)];exact skip _ (St.know_get (by rw[et,hb'])) rfl (h.2 hb')
  ·rename_i x et;rw[et]at rt;simp only[RepV,RepC,RepD]at rt;rw[aA (by rw[E5 c4 (.inr ⟨x,rt⟩)];simp)];exact skip S rfl rfl h
  ·exact h.elim
end
abbrev fI:=@St.know_get
end Go.Abs
namespace Go.Abs
variable [jQ]
abbrev FP:=List Nat × List Nat
def lX(P:Program):List MO->St->List FP->(St->List FP->Prop)->Prop
|[],S,fps,K=>K S fps.reverse
| o::os,S,fps,K=>match o.g with
 |none=>ev P S.get S.m S.n (λv rd wr n=>lX P os (S.put o.dst v wr n) ((rd,wr.map (·.1))::fps) K) o.op
 |some (t,want)=>match S.get t with
  |.c (.d (.bool b))=>(b=want->ev P (S.know t want).get S.m S.n (λv rd wr n=>lX P os ((S.know t want).put o.dst v wr n) ((rd,wr.map (·.1))::fps) K) o.op)/\(b=(!want)->lX P os ((S.know t (!want)).put o.dst kQ [] S.n) (([],[])::fps) K)
  |.c (.d (.sc (.tuple _)))=>lX P os (S.put o.dst kQ [] S.n) (([],[])::fps) K
  |_=>False
def touch(a b:FP):Bool:=a.2.any (λx=>b.1.contains x||b.2.contains x)||b.2.any (λx=>a.1.contains x)
def uY(bef:List Nat)(fps:List FP):Bool:=
(List.range fps.length).all λj=>(List.range j).all λi=>(bef.getD j 0).testBit i|| !touch (fps.getD i ([],[])) (fps.getD j ([],[]))
def E8(ops:Array Oper)(bef:List Nat):Bool:=
(List.range ops.size).all λj=>match ops[j]? with
 |some o=>(o.after.all λe=> !Region.binds .any e||decide (e.on<j))&&
  (List.range ops.size).all λi=> !(bef.getD j 0).testBit i||o.after.any λe=>Region.binds .any e&&(e.on==i||(bef.getD e.on 0).testBit i)
 |none=>false
def E9(ops:Array Oper)(bef:List Nat):Bool:=
(List.range ops.size).all λj=>(List.range j).all λi=>(bef.getD j 0).testBit i||match ops[i]?,ops[j]? with
 |some a,some b=>a.apart ops b
 |_,_=>false
section
variable {α:Type}
def rQ:(Nat->α)->List (Nat × α)->(Nat->α)
|f,[]=>f
|f,(k,v)::l=>rQ (upd f k v) l
def zN:∀(l:List (Nat × α)) (f:Nat->α) (k:Nat),(∀x,x∈l->x.1≠k)->rQ f l k=f k
|[],_,_,_=>rfl
|(j,v)::l,f,k,h=>by
 simp only[rQ];rw[zN l _ k (λx hx=>h x (by simp[hx]))];exact zah _ _ (Ne.symm (h (j,v) (by simp)))
def K7:∀(l:List (Nat × α)) (f g:Nat->α) (k:Nat),(∃x,x∈l/\x.1=k)->rQ f l k=rQ g l k
|[],_,_,_,h=>by obtain⟨x,hx,_⟩:=h;cases hx
| (j,v)::l,f,g,k,h=>by
 simp only[rQ];by_cases hk:∃x,x∈l/\x.1=k
 ·exact K7 l _ _ k hk
 ·have hne:∀x,x∈l->x.1≠k:=λx hx e=>hk ⟨x,hx,e⟩;rw[zN l _ k hne,zN l _ k hne];obtain⟨x,hx,e⟩:=h;rcases aS.1 hx with hx|hx
  ·subst hx;simp only at e;subst e;simp[zae]
  ·exact absurd e (hne x hx)
def zeU(l:List (Nat × α)){f g:Nat->α}{k:Nat}(h:f k=g k):rQ f l k=rQ g l k:=by
 by_cases hk:∃x,x∈l/\x.1=k
 ·exact K7 l f g k hk
 ·have hne:∀x,x∈l->x.1≠k:=λx hx e=>hk ⟨x,hx,e⟩;rw[zN l f k hne,zN l g k hne,h]
def gM(s:Nat->Bool):Nat->(Nat->α)->List (List (Nat × α))->(Nat->α)
|_,f,[]=>f
|i,f,x::l=>gM s (i+1) (if s i then rQ f x else f) l
def yT{k:Nat}:∀(l:List (List (Nat × α))) (i:Nat) (s t:Nat->Bool) (f g:Nat->α),(∀q x,l[q]?=some x->(∃y,y∈x/\y.1=k)->s (i+q)=t (i+q))->f k=g k->gM s i f l k=gM t i g l k
|[],_,_,_,_,_,_,h=>h
| x::l,i,s,t,f,g,hs,h=>by
 simp only[gM];refine yT l (i+1) s t _ _ (λq y hq hy=>?_) ?_
 ·have:=hs (q+1) y (by simpa using hq) hy;rwa[show i+1+q=i+(q+1)from by omega]
 ·by_cases hk:∃y,y∈x/\y.1=k
  ·have:=hs 0 x (by simp) hk;simp only[Nat.add_zero]at this;rw[this];split
   ·exact zeU x h
   ·exact h
  ·have hne:∀y,y∈x->y.1≠k:=λy hy e=>hk ⟨y,hy,e⟩;have e1:(if s i then rQ f x else f) k=f k:=by split<;>simp[zN x f k hne]
   have e2:(if t i then rQ g x else g) k=g k:=by split<;>simp[zN x g k hne]
   rw[e1,e2,h]
def K8{k:Nat}:∀(l:List (List (Nat × α))) (i j:Nat) (s t:Nat->Bool) (f:Nat->α) (x:List (Nat × α)),l[j]?=some x->(∀q,s (i+q)=(t (i+q)||q==j))->(t (i+j)=false)->
 (∀q y,j<q->l[q]?=some y->t (i+q)=true->(∃z,z∈x/\z.1=k)->∀z,z∈y->z.1≠k)->gM s i f l k=rQ (gM t i f l) x k
|[],_,_,_,_,_,_,h,_,_,_=>by simp at h
| y ::l,i,0,s,t,f,x,h,hs,ht,hn=>by
 simp at h;subst h;have h0:=hs 0;simp only[Nat.add_zero,beq_self_eq_true,Bool.or_true]at h0 ht;simp only[gM];rw[h0,ht];simp only[if_true,au,if_false];have hst:∀q,s (i+1+q)=t (i+1+q):=λq=>by
  have:=hs (q+1);rw[show i+(q+1)=i+1+q from by omega]at this;simpa using this
 by_cases hk:∃z,z∈y/\z.1=k
 ·-- the later ones do not write it
  have later:∀(f:Nat->α),gM t (i+1) f l k=f k:=by
   intro f;have:gM t (i+1) f l k=gM (λ_=>false) (i+1) f l k:=by
    refine yT l (i+1) t (λ_=>false) f f (λq x hq hx=>?_) rfl;have h2:=hn (q+1) x (by omega) (by simpa using hq);rw[show i+(q+1)=i+1+q from by omega]at h2;cases htq:t (i+1+q)with
    |false=>rfl
    |true=>
     obtain⟨z,hz,e⟩:=hx;exact absurd e (h2 htq hk z hz)
   rw[this];have none:∀(l:List (List (Nat × α))) (i:Nat) (f:Nat->α),gM (λ_=>false) i f l=f:=by
    intro l
    induction l with
    |nil=>intro i f;rfl
    |cons x l ih=>intro i f;simp only[gM];exact ih _ _
   rw[none]
  have e1:gM s (i+1) (rQ f y) l k=gM t (i+1) (rQ f y) l k:=yT l (i+1) s t _ _ (λq _ _ _=>hst q) rfl;rw[e1,later];exact K7 y _ _ k hk
 ·have hne:∀z,z∈y->z.1≠k:=λz hz e=>hk ⟨z,hz,e⟩;rw[zN y _ k hne];exact yT l (i+1) s t _ _ (λq _ _ _=>hst q) (zN y f k hne)
| y::l,i,j+1,s,t,f,x,h,hs,ht,hn=>by
 have h0:=hs 0;simp only[Nat.add_zero]at h0;have h0':s i=t i:=by simpa using h0
 simp only[gM,h0'];refine K8 l (i+1) j s t _ x (by simpa using h) (λq=>?_) ?_ (λq z hq hz htq hx w hw=>?_)
 ·have:=hs (q+1);rw[show i+(q+1)=i+1+q from by omega]at this;simpa using this
 ·rwa[show i+1+j=i+(j+1)from by omega]
 ·exact hn (q+1) z (by omega) (by simpa using hz) (by rwa[show i+(q+1)=i+1+q from by omega]) hx w hw
end
structure E where
 v:AV
 rd:List Nat
 wr:List (Nat × Blk)
def vZ(get:Nat->AV):Option (Nat × Bool)->Prop
|none=>True
|some (t,b)=>get t=.c (.d (.bool b))
def RJ(get:Nat->AV):Option (Nat × Bool)->Prop
|none=>False
|some (t,b)=>get t=.c (.d (.bool (!b)))\/∃x,get t=.c (.d (.sc (.tuple x)))
def ve(P:Program)(get:Nat->AV)(m:Hp)(mo:MO)(o:Oper)(e:E):Prop:=
(vZ get mo.g/\gz P o get m e.rd e.wr e.v)\/(RJ get mo.g/\e.v=kQ/\e.rd=[]/\e.wr=[])
def dw(mo:MO)(e:E):List (Nat × AV):=match mo.dst with|some d=>[(d,e.v)]|none=>[]
def BX:∀(l:List (Nat × Blk)) (m:Hp),jc m l=rQ m l
|[],_=>rfl
|(k,v)::l,m=>by simp only[jc,rQ];exact BX l _
def Ea(get:Nat->AV)(mo:MO)(e:E):mI get mo.dst e.v=rQ get (dw mo e):=by
 unfold mI dw;cases mo.dst with
 |none=>funext k;simp[rQ]
 |some d=>
  funext k;simp only[rQ,upd,aO];by_cases h:d=k
  ·subst h;simp
  ·rw[aA h,aA (Ne.symm h)]
def kW(P:Program):(Nat->AV)->Hp->List MO->List Oper->List E->Prop
|_,_,[],[],[]=>True
|get,m,mo::mos,o::os,e::es=>ve P get m mo o e/\kW P (mI get mo.dst e.v) (jc m e.wr) mos os es
|_,_,_,_,_=>False
def RL{P:Program}{N:Nat}{ops:Array Oper}{K:St->List FP->Prop}:∀{mos:List MO} {os:List Oper} {S:St} {fps:List FP},mR P N ops mos os=true->lX P mos S fps K->
 ∃(es:List E) (S':St),kW P S.get S.m mos os es/\S'.get=gM (λ_=>true) 0 S.get ((mos.zip es).map λx=>dw x.1 x.2)/\S'.m=gM (λ_=>true) 0 S.m (es.map (·.wr))/\K S' (fps.reverse++es.map λe=>(e.rd,e.wr.map (·.1)))
|[],[],S,fps,_,h=>⟨[],S,trivial,rfl,rfl,by simpa[lX]using h⟩
|[],_::_,_,_,h,_=>by simp[mR]at h
|_::_,[],_,_,h,_=>by simp[mR]at h
| mo ::mos,o::os,S,fps,hc,h=>by
 simp only[mR,aC]at hc;obtain⟨hc0,hcs⟩:=hc;simp only[zM,aC,aV]at hc0;obtain⟨⟨⟨c1,c2⟩,c3⟩,c4⟩:=hc0;have shift:∀{β:Type} (l:List (List (Nat × β))) (i j:Nat) (f:Nat->β),gM (λ_=>true) i f l=gM (λ_=>true) j f l:=by
  intro β l
  induction l with
  |nil=>intro i j f;rfl
  |cons x l ih=>intro i j f;simp only[gM];exact ih _ _ _
 have fin:∀(S₁:St) (e:E) (n:Nat),S₁.get=S.get->S₁.m=S.m->ve P S.get S.m mo o e->lX P mos (S₁.put mo.dst e.v e.wr n) ((e.rd,e.wr.map (·.1))::fps) K->∃(es:List E) (S':St),kW P S.get S.m (mo::mos) (o::os) es/\
   S'.get=gM (λ_=>true) 0 S.get (((mo::mos).zip es).map λx=>dw x.1 x.2)/\S'.m=gM (λ_=>true) 0 S.m (es.map (·.wr))/\K S' (fps.reverse++es.map λe=>(e.rd,e.wr.map (·.1))):=by
  intro S₁ e n eg em hs hr;obtain⟨es,S',t1,t2,t3,t4⟩:=RL hcs hr;have e1:(S₁.put mo.dst e.v e.wr n).get=mI S.get mo.dst e.v:=by rw[<-eg];exact St.put_get ..
  have e2:(S₁.put mo.dst e.v e.wr n).m=jc S.m e.wr:=by rw[<-em];rfl
  refine⟨e::es,S',⟨hs,by rw[<-e1,<-e2];exact t1⟩,?_,?_,by simpa using t4⟩
  ·rw[t2,e1,Ea];simp only[List.zip_cons_cons,List.map_cons,gM,if_true];exact shift _ _ _ _
  ·rw[t3,e2,BX];simp only[List.map_cons,gM,if_true];exact shift _ _ _ _
 have main:∃(S₁:St) (e:E) (n:Nat),S₁.get=S.get/\S₁.m=S.m/\ve P S.get S.m mo o e/\lX P mos (S₁.put mo.dst e.v e.wr n) ((e.rd,e.wr.map (·.1))::fps) K:=by
  have run:∀S₁:St,S₁.get=S.get->S₁.m=S.m->vZ S.get mo.g->ev P S.get S.m S.n (λv rd wr n=>lX P mos (S₁.put mo.dst v wr n) ((rd,wr.map (·.1))::fps) K) mo.op->
    ∃(S₁:St) (e:E) (n:Nat),S₁.get=S.get/\S₁.m=S.m/\ve P S.get S.m mo o e/\lX P mos (S₁.put mo.dst e.v e.wr n) ((e.rd,e.wr.map (·.1))::fps) K:=λS₁ eg em hy he=>by
   obtain⟨v,rd,wr,n',hs,hk⟩:=BV c1 he;exact⟨S₁,⟨v,rd,wr⟩,n',eg,em,.inl ⟨hy,hs⟩,hk⟩
  have skip:∀S₁:St,S₁.get=S.get->S₁.m=S.m->RJ S.get mo.g->lX P mos (S₁.put mo.dst kQ [] S.n) (([],[])::fps) K->
    ∃(S₁:St) (e:E) (n:Nat),S₁.get=S.get/\S₁.m=S.m/\ve P S.get S.m mo o e/\lX P mos (S₁.put mo.dst e.v e.wr n) ((e.rd,e.wr.map (·.1))::fps) K:=λS₁ eg em hy hk=>
   ⟨S₁,⟨kQ,[],[]⟩,S.n,eg,em,.inr ⟨hy,rfl,rfl,rfl⟩,hk⟩
  simp only[lX]at h;split at h
  ·rename_i hg;exact run S rfl rfl (by rw[hg];trivial) h
  ·rename_i t want hg;split at h
   ·rename_i b et;by_cases hb:b=want
    ·subst hb;have h1:=h.1 rfl;rw[fI et]at h1;exact run _ (fI et) rfl (by rw[hg];exact et) h1
    ·have hb':b=(!want):=by cases b<;>cases want<;>simp_all
     exact skip _ (fI (by rw[et,hb'])) rfl (by rw[hg];exact .inl (by rw[et,hb'])) (h.2 hb')
   ·rename_i x et;exact skip S rfl rfl (by rw[hg];exact .inr ⟨x,et⟩) h
   ·exact h.elim
 obtain⟨S₁,e,n,eg,em,h1,h2⟩:=main;exact fin S₁ e n eg em h1 h2
def kW.nth{P:Program}:∀{mos:List MO} {os:List Oper} {es:List E} {get:Nat->AV} {m:Hp} {j:Nat} {o:Oper},kW P get m mos os es->os[j]?=some o->
 ∃mo e,mos[j]?=some mo/\es[j]?=some e/\ve P (gM (λi=>decide (i<j)) 0 get ((mos.zip es).map λx=>dw x.1 x.2)) (gM (λi=>decide (i<j)) 0 m (es.map (·.wr))) mo o e
|[],[],[],_,_,j,o,_,h=>by simp at h
|[],[],_::_,_,_,_,_,h,_=>by simp[kW]at h
|[],_::_,_,_,_,_,_,h,_=>by simp[kW]at h
|_::_,[],_,_,_,_,_,h,_=>by simp[kW]at h
|_::_,_::_,[],_,_,_,_,h,_=>by simp[kW]at h
| mo::mos,o'::os,e::es,get,m,0,o,h,ho=>by
 simp only[kW]at h;simp at ho;subst ho;have none:∀{β:Type} (l:List (List (Nat × β))) (i:Nat) (f:Nat->β),gM (λi=>decide (i<0)) i f l=f:=by
  intro β l
  induction l with
  |nil=>intro i f;rfl
  |cons x l ih=>intro i f;simp only[gM];simpa using ih _ _
 refine⟨mo,e,rfl,rfl,?_⟩;rw[none,none];exact h.1
| mo::mos,o'::os,e::es,get,m,j+1,o,h,ho=>by
 simp only[kW]at h;obtain⟨mo',e',h1,h2,h3⟩:=kW.nth h.2 (by simpa using ho);have shift:∀{β:Type} (l:List (List (Nat × β))) (i:Nat) (f:Nat->β),gM (λi=>decide (i<j+1)) (i+1) f l=gM (λi=>decide (i<j)) i f l:=by
  intro β l
  induction l with
  |nil=>intro i f;rfl
  |cons x l ih=>intro i f;simp only[gM];rw[ih];simp
 refine⟨mo',e',by simpa using h1,by simpa using h2,?_⟩;simp only[List.zip_cons_cons,List.map_cons,gM,Nat.zero_lt_succ,decide_true,if_true];rw[shift,shift,<-Ea,<-BX];exact h3
def jy(l:Array Bool):Nat->Bool:=λi=>l.getD i false
def Ht{l:Array Bool}{j q:Nat}(hj:j<l.size):jy (l.setIfInBounds j true) q=(jy l q||q==j):=by
 unfold jy;by_cases h:q=j
 ·subst h;simp[aT,hj]
 ·have:(q==j)=false:=by simpa using h
  rw[this,Bool.or_false];simp[aT,bM (Ne.symm h)]
def cnt(l:Array Bool):Nat:=l.toList.countP (λb=>b)
def zfN{l:Array Bool}{j:Nat}(hj:j<l.size)(h:jy l j=false):cnt (l.setIfInBounds j true)=cnt l+1:=by
 unfold cnt;have key:∀(l:List Bool) (j:Nat),j<l.length->l.getD j false=false->(l.set j true).countP (λb=>b)=l.countP (λb=>b)+1:=by
  intro l
  induction l with
  |nil=>intro j h;simp at h
  | cons b l ih=>
   intro j hj hb;cases j with
   |zero=>simp at hb;subst hb;simp
   |succ j=>
    simp only[List.set_cons_succ,List.countP_cons];rw[ih j (by simpa using hj) (by simpa using hb)];omega
 rw[Array.toList_setIfInBounds];refine key l.toList j (by simpa using hj) ?_;unfold jy at h;rw[aT]at h;simpa[aF]using h
def zfm{l:Array Bool}(h:cnt l=l.size):∀i,i<l.size->jy l i=true:=by
 intro i hi;unfold cnt at h;have h2:l.toList.countP (λb=>b)=l.toList.length:=by simpa using h
 have:=List.countP_eq_length.1 h2;have h3:=this l[i] (by simp);unfold jy;simp[aT,hi,h3]
section
variable {P:Program} {c:Ctx}
def RN{ops:Array Oper}{l:Array Bool}{i:Nat}:i∈Region.ready .any ops l->i<ops.size/\l.getD i true=false/\∃o,ops[i]?=some o/\∀e,e∈o.after->Region.binds .any e=true->jy l e.on=true:=by
 intro h;unfold Region.ready at h;rw[bP]at h;obtain⟨h1,h2⟩:=h;have hi:i<ops.size:=by simpa using h1
 simp only[aC,bg]at h2;refine⟨hi,h2.1,ops[i],bH hi,λe he hb=>?_⟩;have h3:=h2.2;rw[bH hi]at h3;simp only[Option.map_some,Option.getD_some,Array.all_eq_true']at h3;have:=h3 e he;rw[hb]at this;simpa[jy]using this
def zfn{ops:Array Oper}{l:Array Bool}{i:Nat}{o:Oper}(hi:ops[i]?=some o)(hl:l.getD i true=false)(h:∀e,e∈o.after->Region.binds .any e=true->jy l e.on=true):i∈Region.ready .any ops l:=by
 unfold Region.ready;rw[bP];have hlt:i<ops.size:=by
  rcases aX i ops.size with h1|h1
  ·exact h1
  ·rw[af h1]at hi;cases hi
 refine⟨by simpa using hlt,?_⟩;simp only[hl,Bool.not_false,Bool.true_and,hi,Option.map_some,Option.getD_some,Array.all_eq_true'];intro e he;cases hb:Region.binds .any e with
 |false=>rfl
 |true=>simpa[jy]using h e he hb
def K9{l:Array Bool}{i:Nat}(hi:i<l.size):l.getD i true=jy l i:=by
 unfold jy;simp[aT,hi]
def Ka{ops:Array Oper}{bef:List Nat}(h:E8 ops bef=true){j:Nat}{o:Oper}(ho:ops[j]?=some o):
  (∀e,e∈o.after->Region.binds .any e=true->e.on<j)/\∀i,i<ops.size->(bef.getD j 0).testBit i=true->∃e,e∈o.after/\Region.binds .any e=true/\(e.on=i\/(bef.getD e.on 0).testBit i=true):=by
 have hlt:j<ops.size:=by
  rcases aX j ops.size with h1|h1
  ·exact h1
  ·rw[af h1]at ho;cases ho
 have:=aZ.1 h j (by simpa using hlt);rw[ho]at this;simp only[aC,Array.all_eq_true',aZ,List.mem_range]at this;refine⟨λe he hb=>?_,λi hi hb=>?_⟩
 ·have h1:=this.1 e he;rw[hb]at h1;simpa using h1
 ·have h2:=this.2 i hi;rw[hb]at h2;simp only[Bool.not_true,Bool.false_or,Array.any_eq_true',aC,bS,aV]at h2;obtain⟨e,he,h3,h4⟩:=h2;exact⟨e,he,h3,h4⟩
def Kb{ops:Array Oper}{bef:List Nat}(h:E9 ops bef=true){i j:Nat}{a b:Oper}(hij:i<j)(ha:ops[i]?=some a)(hb:ops[j]?=some b):(bef.getD j 0).testBit i=true\/a.apart ops b=true:=by
 have hlt:j<ops.size:=by
  rcases aX j ops.size with h1|h1
  ·exact h1
  ·rw[af h1]at hb;cases hb
 have h1:=aZ.1 h j (by simpa using hlt);have h2:=aZ.1 h1 i (by simpa using hij);rw[ha,hb]at h2;simpa using h2
def Kc{bef:List Nat}{fps:List FP}(h:uY bef fps=true){i j:Nat}{a b:FP}(hij:i<j)(ha:fps[i]?=some a)(hb:fps[j]?=some b):(bef.getD j 0).testBit i=true\/touch a b=false:=by
 have hlt:j<fps.length:=by
  rcases aX j fps.length with h1|h1
  ·exact h1
  ·rw[aM h1]at hb;cases hb
 have h1:=aZ.1 h j (by simpa using hlt);have h2:=aZ.1 h1 i (by simpa using hij);rw[aF (l:=fps),aF (l:=fps),ha,hb]at h2;simpa using h2
def Hw{a b:FP}(h:touch a b=false){x:Nat}:(x∈a.2->x∉b.1/\x∉b.2)/\(x∈b.2->x∉a.1):=by
 unfold touch at h;simp only[Bool.or_eq_false_iff,List.any_eq_false,dJ,bS,not_or]at h;exact⟨λhx=>h.1 x hx,λhx=>by simpa using h.2 x hx⟩
def Ke{N:Nat}{ops:Array Oper}:∀{mos:List MO} {os:List Oper} {j:Nat} {mo:MO} {o:Oper},mR P N ops mos os=true->mos[j]?=some mo->os[j]?=some o->zM P N ops mo o=true
|[],_,_,_,_,_,h,_=>by simp at h
|_::_,[],_,_,_,_,_,h=>by simp at h
|mo::mos,o::os,0,mo',o',h,h1,h2=>by
 simp at h1 h2;subst h1 h2;simp only[mR,aC]at h;exact h.1
|mo::mos,o::os,j+1,mo',o',h,h1,h2=>by
 simp only[mR,aC]at h;exact Ke h.2 (by simpa using h1) (by simpa using h2)
def Hy{N:Nat}{ops:Array Oper}:∀{mos:List MO} {os:List Oper},mR P N ops mos os=true->mos.length=os.length
|[],[],_=>rfl
|[],_::_,h=>by simp[mR]at h
|_::_,[],h=>by simp[mR]at h
|_::_,_::_,h=>by
 simp only[mR,aC]at h;simp[Hy h.2]
def kW.len:∀{mos:List MO} {os:List Oper} {es:List E} {get:Nat->AV} {m:Hp},kW P get m mos os es->es.length=os.length
|[],[],[],_,_,_=>rfl
|[],[],_::_,_,_,h=>by simp[kW]at h
|[],_::_,_,_,_,h=>by simp[kW]at h
|_::_,[],_,_,_,h=>by simp[kW]at h
|_::_,_::_,[],_,_,h=>by simp[kW]at h
|_::_,_::_,_::_,_,_,h=>by simp only[kW]at h;simp[kW.len h.2]
def RO{get:Nat->AV}{m m':Hp}{a:Act}{w w':World}{h h':PH}{ρ ρ':RM}(hG:Gnd P c.h)(hsd:jQ.ok c.h (jm c.ρ c.m) c.w)(hdef:a.defers=c.D)(hsz:a.tmps.size=c.N)
  (S0:ng c.h c.ρ c.m c.w.heap h ρ m w.heap) (e0:Same c.w w) (hg:∀k,RepV h ρ (get k) (a.tmps.getD k undef)) (S:Step h ρ m w.heap h' ρ' m' w'.heap) (H:HRel h' ρ' m' w'.heap) (e:Same w w'):
  kR P c get m' a w' where
 gnd:=hG
 sd:=hsd
 defers:=hdef
 size:=hsz
 ex:=⟨h',ρ',H,S0.trans S,e0.trans e,λk=>RepV.mono S.hle S.rle _ _ (hg k)⟩
def zfO{get:Nat->AV}{m:Hp}{a:Act}{w:World}(r:kR P c get m a w):kR P c (λ_=>.c (.d .any)) m a w where
 gnd:=r.gnd
 sd:=r.sd
 defers:=r.defers
 size:=r.size
 ex:=by
  obtain⟨ph,ρ,H,S0,e0,hg⟩:=r.ex;exact⟨ph,ρ,H,S0,e0,λk=>by simp only[RepV,RepC,RepD]⟩
def Kg(P:Program)(n:Nat)(bef:List Nat)(pj:Nat)(pv:Value)(wrp:List (Nat × Blk))(get:Nat->AV)(m:Hp)(mo:MO)(o:Oper)(e:E)(j:Nat):Prop:=
(j≠pj/\ve P get m mo o e)\/(j=pj/\e.wr=[]/\vZ get mo.g/\Hq P o get m wrp pv)\/(pj<n/\(bef.getD j 0).testBit pj=true)
def Kh{ops:Array Oper}{bef:List Nat}{mos:List MO}{es:List E}{get:Nat->AV}{m:Hp}{Q:Exit->Act->World->Prop}{pj:Nat}{pv:Value}{wrp:List (Nat × Blk)}(hc:mR P c.N ops mos ops.toList=true)(len2:es.length=ops.toList.length)
  (ht:∀j o,ops.toList[j]?=some o->∃mo e,mos[j]?=some mo/\es[j]?=some e/\Kg P ops.size bef pj pv wrp (gM (λi=>decide (i<j)) 0 get ((mos.zip es).map λx=>dw x.1 x.2)) (gM (λi=>decide (i<j)) 0 m (es.map (·.wr))) mo o e j)
  (hE:E8 ops bef=true) (hT:E9 ops bef=true) (hF:uY bef (es.map λe=>(e.rd,e.wr.map (·.1)))=true)
  (hQ:¬pj<ops.size->∀a w,kR P c (gM (λ_=>true) 0 get ((mos.zip es).map λx=>dw x.1 x.2)) (gM (λ_=>true) 0 m (es.map (·.wr))) a w->Q .normal a w)
  (hw:pj<ops.size->∀i e,es[i]?=some e->e.wr≠[]->(bef.getD pj 0).testBit i=true/\i<pj)
  (hP:pj<ops.size->∀(L:Nat->Bool) a w,kR P c (gM L 0 get ((mos.zip es).map λx=>dw x.1 x.2)) (jc (gM (λi=>decide (i<pj)) 0 m (es.map (·.wr))) wrp) a w->Q (.panic [{v:=pv,recovered:=false}]) a w):
  ∀(fuel:Nat) (l:Array Bool) (a:Act) (w:World),(pj<ops.size->jy l pj=false)->l.size=ops.size->cnt l+fuel=ops.size->(∀j i,jy l j=true->(bef.getD j 0).testBit i=true->i<ops.size->jy l i=true)->
   kR P c (gM (jy l) 0 get ((mos.zip es).map λx=>dw x.1 x.2)) (gM (jy l) 0 m (es.map (·.wr))) a w->wpAny P .any ops Q fuel l a w:=by
 have len1:=Hy hc;have len3:ops.toList.length=ops.size:=by simp
 -- when all have come up
 have done:∀(l:Array Bool) (a:Act) (w:World),(pj<ops.size->jy l pj=false)->(∀i,i<ops.size->jy l i=true)->kR P c (gM (jy l) 0 get ((mos.zip es).map λx=>dw x.1 x.2)) (gM (jy l) 0 m (es.map (·.wr))) a w->Q .normal a w:=by
  intro l a w hpl hl r;refine hQ (λhp=>by have h1:=hpl hp;rw[hl pj hp]at h1;cases h1) a w ?_;have e1:gM (jy l) 0 get ((mos.zip es).map λx=>dw x.1 x.2)=gM (λ_=>true) 0 get ((mos.zip es).map λx=>dw x.1 x.2):=by
   funext k;refine yT _ 0 _ _ _ _ (λq x hq _=>?_) rfl;have hlt:q<((mos.zip es).map λx=>dw x.1 x.2).length:=by
    rcases aX q ((mos.zip es).map λx=>dw x.1 x.2).length with h|h
    ·exact h
    ·rw[aM h]at hq;cases hq
   simp only[ah,List.length_zip]at hlt;rw[Nat.zero_add];exact hl q (by omega)
  have e2:gM (jy l) 0 m (es.map (·.wr))=gM (λ_=>true) 0 m (es.map (·.wr)):=by
   funext k;refine yT _ 0 _ _ _ _ (λq x hq _=>?_) rfl;have hlt:q<(es.map (·.wr)).length:=by
    rcases aX q (es.map (·.wr)).length with h|h
    ·exact h
    ·rw[aM h]at hq;cases hq
   simp only[ah]at hlt;rw[Nat.zero_add];exact hl q (by omega)
  rw[<-e1,<-e2];exact r
 have allOf:∀(l:Array Bool),l.size=ops.size->Region.ready .any ops l=[]->∀i,i<ops.size->jy l i=true:=by
  intro l hs hr i
  induction i using Nat.strongRecOn with
  | _ i ih=>
   intro hi;cases hli:jy l i with
   |true=>rfl
   | false=>
    have hmem:i∈Region.ready .any ops l:=by
     refine zfn (bH hi) (by rw[K9 (by omega)];exact hli) λe he hb=>?_;have h1:=(Ka hE (bH hi)).1 e he hb;exact ih e.on h1 (by omega)
    rw[hr]at hmem;cases hmem
 intro fuel
 induction fuel with
 | zero=>
  intro l a w hpl hs hcnt hcl r;have hall:=zfm (l:=l) (by omega);refine⟨?_,done l a w hpl (λi hi=>hall i (by omega)) r⟩;cases hr:Region.ready .any ops l with
  |nil=>rfl
  |cons i t=>
   have:=RN (by rw[hr];exact List.mem_cons_self:i∈Region.ready .any ops l);rw[K9 (by omega),hall i (by omega)]at this;exact absurd this.2.1 (by simp)
 | succ fuel ih=>
  intro l a w hpl hs hcnt hcl r;refine⟨λhr=>done l a w hpl (allOf l hs hr) r,λj hj=>?_⟩;obtain⟨hjs,hjl,o,ho,hedge⟩:=RN hj;rw[K9 (by omega)]at hjl;have hot:ops.toList[j]?=some o:=by simpa using ho
  obtain⟨mo,e,hmo,he,hstep⟩:=ht j o hot;have hc0:=Ke hc hmo hot;simp only[zM,aC,aV]at hc0;obtain⟨⟨⟨c1,c2⟩,c3⟩,c4⟩:=hc0;have hd:∀d,mo.dst=some d->d<c.N:=λd hd=>by rw[hd]at c3;simpa using c3
  -- what must come before has come
  have pre:∀i,i<ops.size->(bef.getD j 0).testBit i=true->jy l i=true:=by
   intro i hi hb;obtain⟨ed,h1,h2,h3⟩:=(Ka hE ho).2 i hi hb;have h4:=hedge ed h1 h2;rcases h3 with h3|h3
   ·rw[<-h3];exact h4
   ·exact hcl ed.on i h4 h3 hi
  have post:∀i,(bef.getD i 0).testBit j=true->jy l i=false:=by
   intro i hb;cases hli:jy l i with
   |false=>rfl
   |true=>have:=hcl i j hli hb hjs;rw[hjl]at this;cases this
  -- the row of temporaries that operation q writes
  have rowd:∀(q:Nat) (x:List (Nat × AV)),((mos.zip es).map λx=>dw x.1 x.2)[q]?=some x->∃oq:Oper,ops[q]?=some oq/\∀k,(∃y,y∈x/\y.1=k)->oq.dst=some k:=by
   intro q x hq;simp only[List.getElem?_map,aJ]at hq;obtain⟨z,hz,hx⟩:=hq;have hlt:q<(mos.zip es).length:=by
    rcases aX q (mos.zip es).length with h|h
    ·exact h
    ·rw[aM h]at hz;cases hz
   simp only[List.length_zip]at hlt;have hqs:q<ops.size:=by omega
   refine⟨ops[q],bH hqs,λk hk=>?_⟩;have hzm:mos[q]?=some z.1:=by
    have:=List.getElem?_zip_eq_some.1 hz;exact this.1
   have hcq:=Ke hc hzm (show ops.toList[q]?=some ops[q] by simp[hqs]);simp only[zM,aC,aV]at hcq;rw[<-hcq.1.1.2];obtain⟨y,hy,hk⟩:=hk;rw[<-hx]at hy;unfold dw at hy;split at hy
   ·rename_i d hdz;simp only[aP]at hy;subst hy;rw[hdz];simp only at hk;rw[hk]
   ·cases hy
  have rowb:∀(q:Nat) (x:List (Nat × Blk)),(es.map (·.wr))[q]?=some x->∃fq:FP,(es.map λe=>(e.rd,e.wr.map (·.1)))[q]?=some fq/\∀k,(∃y,y∈x/\y.1=k)->k∈fq.2:=by
   intro q x hq;simp only[List.getElem?_map,aJ]at hq;obtain⟨z,hz,hx⟩:=hq;refine⟨(z.rd,z.wr.map (·.1)),by simp[List.getElem?_map,hz],λk hk=>?_⟩;obtain⟨y,hy,hk⟩:=hk;rw[<-hx]at hy;exact bI.2 ⟨y,hy,hk⟩
  have hfj:(es.map λe=>(e.rd,e.wr.map (·.1)))[j]?=some (e.rd,e.wr.map (·.1)):=by simp[List.getElem?_map,he]
  -- temporaries that it reads are ι in the text
  have agT:∀k,k∈o.looksAt ops->gM (jy l) 0 get ((mos.zip es).map λx=>dw x.1 x.2) k=gM (λi=>decide (i<j)) 0 get ((mos.zip es).map λx=>dw x.1 x.2) k:=by
   intro k hk;refine yT _ 0 _ _ _ _ (λq x hq hx=>?_) rfl;rw[Nat.zero_add];obtain⟨oq,hoq,hdq⟩:=rowd q x hq;have hdk:=hdq k hx;have hqs:q<ops.size:=by
    rcases aX q ops.size with h1|h1
    ·exact h1
    ·rw[af h1]at hoq;cases hoq
   rcases Nat.lt_trichotomy q j with h|h|h
   ·rw[dN h];rcases Kb hT h hoq ho with hb|hap
    ·exact pre q hqs hb
    ·exact absurd hk ((Oper.apart_spec hap).1 k hdk)
   ·subst h;rw[hjl];simp
   ·rw[dZ (by omega)];rcases Kb hT h ho hoq with hb|hap
    ·exact post q hb
    ·exact absurd hk ((Oper.apart_spec hap).2.2 k hdk)
  have agB:∀k,(k∈e.rd\/k∈e.wr.map (·.1))->gM (jy l) 0 m (es.map (·.wr)) k=gM (λi=>decide (i<j)) 0 m (es.map (·.wr)) k:=by
   intro k hk;refine yT _ 0 _ _ _ _ (λq x hq hx=>?_) rfl;rw[Nat.zero_add];obtain⟨fq,hfq,hwq⟩:=rowb q x hq;have hkq:=hwq k hx;have hqs:q<ops.size:=by
    have:q<(es.map λe=>(e.rd,e.wr.map (·.1))).length:=by
     rcases aX q (es.map λe=>(e.rd,e.wr.map (·.1))).length with h1|h1
     ·exact h1
     ·rw[aM h1]at hfq;cases hfq
    simp only[ah]at this;omega
   rcases Nat.lt_trichotomy q j with h|h|h
   ·rw[dN h];rcases Kc hF h hfq hfj with hb|hap
    ·exact pre q hqs hb
    ·have:=(Hw hap (x:=k)).1 hkq;rcases hk with hk|hk
     ·exact absurd hk this.1
     ·exact absurd hk this.2
   ·subst h;rw[hjl];simp
   ·rw[dZ (by omega)];rcases Kc hF h hfj hfq with hb|hap
    ·exact post q hb
    ·rcases hk with hk|hk
     ·exact absurd hk ((Hw hap (x:=k)).2 hkq)
     ·exact absurd hkq ((Hw hap (x:=k)).1 hk).2
  have hjsz:j<l.size:=by omega
  -- what has come up with it
  have insT:gM (jy (l.setIfInBounds j true)) 0 get ((mos.zip es).map λx=>dw x.1 x.2)=mI (gM (jy l) 0 get ((mos.zip es).map λx=>dw x.1 x.2)) mo.dst e.v:=by
   funext k;rw[Ea];refine K8 _ 0 j _ _ _ (dw mo e) ?_ (λq=>by rw[Nat.zero_add];exact Ht hjsz) (by rw[Nat.zero_add];exact hjl) (λq y hq hy hlq hz z hz'=>?_)
   ·simp only[List.getElem?_map,aJ];exact⟨(mo,e),List.getElem?_zip_eq_some.2 ⟨hmo,he⟩,rfl⟩
   ·rw[Nat.zero_add]at hlq;obtain⟨oq,hoq,hdq⟩:=rowd q y hy;intro hzk;have h1:=hdq k ⟨z,hz',hzk⟩;have h2:o.dst=some k:=by
     rw[<-c2];obtain⟨z0,hz0,hz0k⟩:=hz;unfold dw at hz0;split at hz0
     ·rename_i d hdz;simp only[aP]at hz0;subst hz0;rw[hdz];simp only at hz0k;rw[hz0k]
     ·cases hz0
    rcases Kb hT hq ho hoq with hb|hap
    ·rw[post q hb]at hlq;cases hlq
    ·exact(Oper.apart_spec hap).2.1 k h2 h1
  have insB:gM (jy (l.setIfInBounds j true)) 0 m (es.map (·.wr))=jc (gM (jy l) 0 m (es.map (·.wr))) e.wr:=by
   funext k;rw[BX];refine K8 _ 0 j _ _ _ e.wr ?_ (λq=>by rw[Nat.zero_add];exact Ht hjsz) (by rw[Nat.zero_add];exact hjl) (λq y hq hy hlq hz z hz'=>?_)
   ·simp[List.getElem?_map,he]
   ·rw[Nat.zero_add]at hlq;obtain⟨fq,hfq,hwq⟩:=rowb q y hy;intro hzk;have h1:=hwq k ⟨z,hz',hzk⟩;rcases Kc hF hq hfj hfq with hb|hap
    ·rw[post q hb]at hlq;cases hlq
    ·obtain⟨z0,hz0,hz0k⟩:=hz;exact((Hw hap (x:=k)).1 (bI.2 ⟨z0,hz0,hz0k⟩)).2 h1
  have next:j≠pj->∀(a':Act) (w':World),kR P c (mI (gM (jy l) 0 get ((mos.zip es).map λx=>dw x.1 x.2)) mo.dst e.v) (jc (gM (jy l) 0 m (es.map (·.wr))) e.wr) a' w'->wpAny P .any ops Q fuel (l.setIfInBounds j true) a' w':=by
   intro hjp a' w' r';refine ih _ a' w' (λhp=>by rw[Ht hjsz,hpl hp];simpa using Ne.symm hjp) (by simpa using hs) (by rw[zfN hjsz hjl];omega) (λq i hq hb hi=>?_) (by rw[insT,insB];exact r');rw[Ht hjsz]at hq⊢;simp only[bS,aV]at hq⊢;rcases hq with hq|hq
   ·exact .inl (hcl q i hq hb hi)
   ·subst hq;exact .inl (pre i hi hb)
  obtain⟨ph,ρ,H,S0,e0,hg⟩:=r.ex;have looks:∀k,Operand.tmp k∈o.op.operands->k∈o.looksAt ops:=λk hk=>List.mem_append_left _ (List.mem_filterMap.2 ⟨.tmp k,by simpa using hk,rfl⟩);have guardT:∀t b,mo.g=some (t,b)->t∈o.looksAt ops:=by
   intro t b hgm;rw[hgm]at c4;unfold vY at c4;split at c4
   ·rename_i e' _;cases e'
   ·rename_i t' b' j' b'' e' hgo;cases e';simp only[aC,aV]at c4;refine List.mem_append_right _ ?_;rw[hgo];simp only[c4.2];simp
   ·cases c4
  unfold wpOp;rw[ho];dsimp only;by_cases hjp:j=pj
  ·subst hjp;rcases hstep with h|⟨_,he0,hy,hsem⟩|⟨_,h⟩
   ·exact absurd rfl h.1
   ·have em:gM (jy l) 0 m (es.map (·.wr))=gM (λi=>decide (i<j)) 0 m (es.map (·.wr)):=by
     funext k;refine yT _ 0 _ _ _ _ (λq x hq hx=>?_) rfl;rw[Nat.zero_add];simp only[List.getElem?_map,aJ]at hq;obtain⟨z,hz,hzx⟩:=hq;have h1:=hw hjs q z hz (by rw[hzx];intro h0;rw[h0]at hx;obtain⟨y,hy,_⟩:=hx;cases hy);rw[pre q (by omega) h1.1,dN h1.2]
    have rS:=r.side S0;rw[em]at H S0 rS;rw[aB (DZ c4 (λt b hgm=>by
     have:=hg t;rw[agT t (guardT t b hgm)]at this;rw[hgm]at hy;simp only[vZ]at hy;rw[hy]at this
     simpa only[RepV,RepC,RepD]using this))]
    refine .inl (hsem (gM (λi=>decide (i<j)) 0 m (es.map (·.wr))) (λx _=>rfl) ph ρ w a H (r.gnd.mono S0.hle) rS
     (λk hk=>by rw[<-agT k (looks k hk)];exact hg k) _ _ λh' ρ' w' st K' e1=>?_)
    exact hP hjs (jy l) _ _ (RO r.gnd r.sd r.defers r.size S0 e0 hg st K' e1)
   ·exact absurd ((Ka hE ho).2 j hjs h) (by
     rintro⟨ed,h1,h2,h3⟩
     have h4:=hedge ed h1 h2;rcases h3 with h3|h3
     ·rw[h3,hjl]at h4;cases h4
     ·have:=hcl ed.on j h4 h3 hjs
      rw[hjl]at this;cases this)
  have hstep:ve P (gM (λi=>decide (i<j)) 0 get ((mos.zip es).map λx=>dw x.1 x.2)) (gM (λi=>decide (i<j)) 0 m (es.map (·.wr))) mo o e:=by
   rcases hstep with h|h|h
   ·exact h.2
   ·exact absurd h.1 hjp
   ·have:=pre pj h.1 h.2;rw[hpl h.1]at this;cases this
  rcases hstep with⟨hy,hsem⟩|⟨hn,hv,hrd,hwr⟩
  ·rw[aB (DZ c4 (λt b hgm=>by
    have:=hg t;rw[agT t (guardT t b hgm)]at this;rw[hgm]at hy;simp only[vZ]at hy;rw[hy]at this
    simpa only[RepV,RepC,RepD]using this))]
   refine .inl (hsem (gM (jy l) 0 m (es.map (·.wr))) (λb hb=>agB b (.inl hb)) (λx hx=>agB x.1 (.inr (bI.2 ⟨x,hx,rfl⟩))) ph ρ w a H (r.gnd.mono S0.hle) (r.side S0)
    (λk hk=>by rw[<-agT k (looks k hk)];exact hg k) _ _ λh' ρ' w' vC st K' e1 rv=>?_)
   rw[<-c2];exact next hjp _ _ (K3 r.gnd r.sd r.defers r.size hd S0 e0 hg st K' e1 rv)
  ·cases hgm:mo.g with
   |none=>rw[hgm]at hn;exact hn.elim
   | some p=>
    obtain⟨t,b⟩:=p;rw[hgm]at hn c4;have:=hg t;rw[agT t (guardT t b hgm)]at this;rw[aA (by
     rw[E5 c4 (by
      rcases hn with hn|⟨x,hn⟩
      ·rw[hn]at this;exact .inl (by simpa only[RepV,RepC,RepD]using this)
      ·rw[hn]at this;exact .inr ⟨x,by simpa only[RepV,RepC,RepD]using this⟩)]
     simp)]
    rw[<-c2];refine next hjp _ _ ?_;rw[hv,hwr];exact K5 r hd
def Ki{ops:Array Oper}{bef:List Nat}{mos:List MO}{es:List E}{get:Nat->AV}{m:Hp}{Q:Exit->Act->World->Prop}(hc:mR P c.N ops mos ops.toList=true)(ht:kW P get m mos ops.toList es)
  (hE:E8 ops bef=true) (hT:E9 ops bef=true) (hF:uY bef (es.map λe=>(e.rd,e.wr.map (·.1)))=true)
  (hQ:∀a w,kR P c (gM (λ_=>true) 0 get ((mos.zip es).map λx=>dw x.1 x.2)) (gM (λ_=>true) 0 m (es.map (·.wr))) a w->Q .normal a w):
  ∀(fuel:Nat) (l:Array Bool) (a:Act) (w:World),l.size=ops.size->cnt l+fuel=ops.size->(∀j i,jy l j=true->(bef.getD j 0).testBit i=true->i<ops.size->jy l i=true)->
   kR P c (gM (jy l) 0 get ((mos.zip es).map λx=>dw x.1 x.2)) (gM (jy l) 0 m (es.map (·.wr))) a w->wpAny P .any ops Q fuel l a w:=by
 intro fuel l a w hs hcnt hcl r;exact Kh (pj:=ops.size) (pv:=undef) (wrp:=[]) hc ht.len (λj o ho=>by
  obtain⟨mo,e,h1,h2,h3⟩:=ht.nth ho
  exact⟨mo,e,h1,h2,.inl ⟨λh=>by subst h;simp at ho,h3⟩⟩) hE hT hF (λ_=>hQ) (λh=>absurd h (by omega)) (λh=>absurd h (by omega)) fuel l a w (λh=>absurd h (by omega)) hs hcnt hcl r
end
end Go.Abs
