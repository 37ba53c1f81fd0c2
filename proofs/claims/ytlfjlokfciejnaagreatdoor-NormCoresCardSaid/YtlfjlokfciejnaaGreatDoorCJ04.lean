/- Texts of ours, joined and written short by a program of ours. -/
import Derived.Test.YtlfjlokfciejnaaGreatDoorCJ03
import Derived.KernelRfl
set_option maxRecDepth 20000
set_option maxHeartbeats 4000000
set_option linter.unusedVariables false
set_option linter.unusedSimpArgs false
namespace Go.Abs
section
variable {P:Program} {get:Nat->AV} {m:Hp} {n:Nat}
theorem SA{ph:PH}{ρ:RM}{a:Act}:∀{xs:List MX} {os:List Operand} {cs:List AC},wK xs os=true->(∀k,Operand.tmp k∈os->RepV ph ρ (get k) (a.tmps.getD k undef))->BR get xs=some cs->
 iJ ph ρ cs (os.map a.eval)/\(os.map a.eval).length=cs.length
|[],[],cs,_,_,e=>by simp only[BR]at e;cases e;simp[iJ]
|[],_::_,_,h,_,_=>by simp[wK]at h
|_::_,[],_,h,_,_=>by simp[wK]at h
| x::xs,o::os,cs,h,hg,e=>by
 simp only[wK,aG]at h;simp only[BR]at e;split at e
 ·rename_i c r h1 h2;split at e
  ·rename_i h3;cases e;have r1:=jf h.1 (ph:=ph) (ρ:=ρ) (get:=get) (a:=a) λk hk=>hg k (by simp[hk]);rw[h1]at r1;simp only[RepV]at r1;obtain⟨i1,i2⟩:=SA h.2 (λk hk=>hg k (by simp[hk])) h2;simp only[List.map_cons,iJ,List.length_cons];exact⟨⟨⟨AC.one_ok r1 h3,r1⟩,i1⟩,by rw[i2]⟩
  ·cases e
 ·cases e
theorem SB{o:Oper}{fn:Fn}{f:FuncId}{first captured:Array Operand}{caps:List MX}(ho:o.op=.makeFunc fn first captured)(hc:iP P (.mkfn f caps) (.makeFunc fn first captured)=true){cs:List AC}(e:BR get caps=some cs):
  ic P o get m [] [] (.c (.fn (.func f) cs)):=by
 simp only[iP,aG]at hc;obtain⟨⟨c0,c1⟩,c2⟩:=hc;split at c0
 ·rename_i g;simp only[aY]at c0;subst c0;refine ic.of_pure λm' h1 ph ρ w a hr hg=>?_;obtain⟨i1,i2⟩:=SA (ph:=ph) (ρ:=ρ) (a:=a) c2 (λk hk=>hg k (by rw[ho];simp only[Op.operands];simp at hk⊢;exact .inr hk)) e;have hfirst:first=#[]:=by simpa using c1
  refine⟨.func (.func f) #[] (captured.map a.eval),?_,?_⟩
  ·unfold execOp;rw[ho];refine fM ?_ (fK _);show iA P (Instr.makeFunc (.func f) (first.map a.eval) (captured.map a.eval)) w _ w;rw[hfirst];unfold Instr.makeFunc;simp only[List.map_toArray,List.map_nil];exact fK _
  ·simp only[RepV,RepC];refine⟨captured.toList.map a.eval,?_,i2,i1⟩;congr 1;apply dD;simp
 ·cases c0
theorem LV{ph:PH}{ρ:RM}{f:Fn}{ds:List D}{v:Value}(r:RepV ph ρ (.c (.fn f (ds.map .d))) v):RepV ph ρ (.c (.d (.fn f ds))) v:=by
 simp only[RepV,RepC,RepD]at r⊢;obtain⟨vs,e1,e2,e3⟩:=r;exact⟨vs,e1,by simpa using e2,iJ.to_D e3⟩
theorem ic.weaken{o:Oper}{rd:List Nat}{wr:List (Nat × Blk)}{v v':AV}(h:ic P o get m rd wr v)(hv:∀{ph:PH} {ρ:RM} {x:Value},RepV ph ρ v x->RepV ph ρ v' x):ic P o get m rd wr v':=
 λm' h1 h2 ph ρ w a hr hG hg next Q hn=>h m' h1 h2 ph ρ w a hr hG hg next Q λh' ρ' w' vC s k e p=>hn h' ρ' w' vC s k e (hv p)
theorem SC{o:Oper}{f:FuncId}{ds:List DV}{v:DV}(hp:gu P f ds v)(H:∀(ph:PH) (ρ:RM) (w:World) (a:Act),(∀k,Operand.tmp k∈o.op.operands->RepV ph ρ (get k) (a.tmps.getD k undef))->
  ∃args:List Value,ji ph ds args/\iA P (execOp a.eval o) w (.enter f args.toArray) w):ic P o get m [] [] v.av:=by
 intro m' h1 h2 ph ρ w a hr hG hg next Q hn;obtain⟨args,ra,hrun⟩:=H ph ρ w a hg;obtain⟨_,hp⟩:=hp;unfold Oper.wp;rw[show(execOp a.eval o).run P w=.ok (.enter f args.toArray) w from hrun];rw[Oper.upon_enter];refine(hp ph w args hr.pers hG ra).mono λe w' hh=>?_;obtain⟨vC,h',e1,e2,e3,e4,e5,e6,e7,e8⟩:=hh;subst e1;have K:HRel h' ρ m' w'.heap:=hr.grow e2 e4 (λB hB _=>⟨e6 B hB,e3 B hB⟩);have S:Step ph ρ m' w.heap h' ρ m' w'.heap:=⟨e2,λB hB _=>e3 B hB,fw ρ,e5,λB hB _=>e6 B hB,λb p hp hr=>.inr ⟨b,p,hp,hr,rfl⟩⟩
 exact hn h' ρ w' vC S K e7 (kR.av e8)
theorem IW{f:FuncId}{args:Array Value}{w:World}(h:callee P f=true):iA P (callFunc f args) w (.enter f args) w:=by
 unfold callee at h;unfold callFunc;refine iA.program.bind ?_;split at h
 ·rename_i fn hfn;simp only[aG,bne_iff_ne,ne_eq]at h;rw[hfn];dsimp only;rw[aB (by simpa using h.1),aB (by
   have:=h.2
   cases hb:fn.body<;>simp_all)]
  exact fK _
 ·cases h
theorem ji.length{h:PH}:∀{xs:List DV} {vs:List Value},ji h xs vs->vs.length=xs.length
|[],vs,r=>by simp[ji]at r;simp[r]
|_::_,[],r=>by simp[ji]at r
|x::xs,v::vs,r=>by simp only[ji]at r;simp[ji.length r.2]
theorem ji.append{h:PH}:∀{xs:List DV} {vs:List Value} {ys:List DV} {us:List Value},ji h xs vs->ji h ys us->ji h (xs++ys) (vs++us)
|[],vs,ys,us,r,r'=>by simp[ji]at r;subst r;simpa using r'
|_::_,[],_,_,r,_=>by simp[ji]at r
|x::xs,v::vs,ys,us,r,r'=>by
 simp only[ji,List.cons_append]at r⊢;exact⟨r.1,ji.append r.2 r'⟩
theorem RepL.ones{h:PH}:∀{ds:List D} {vs:List Value},RepL h ds vs->vs.length=ds.length->ji h (ds.map .one) vs
|[],[],_,_=>by simp[ji]
|[],_::_,_,e=>by simp at e
|_::_,[],r,_=>by simp[RepL]at r
|d::ds,v::vs,r,e=>by
 simp only[RepL]at r;simp only[List.map_cons,ji,kR];exact⟨r.1.2,RepL.ones r.2 (by simpa using e)⟩
theorem zmZ{o:Oper}{c:Call}{f:FuncId}{xs:List MX}(ho:o.op=.call c)(hc:iP P (.call f xs) (.call c)=true){ds:List DV}(e:yS (xs.map (X get))=some ds){v:DV}(hp:gu P f ds v):ic P o get m [] [] v.av:=by
 simp only[iP,aG]at hc;obtain⟨c0,c1⟩:=hc;split at c0
 ·rename_i g hg;simp only[aY]at c0;subst c0;refine SC hp λph ρ w a hr=>?_;have rv:=Ep c1 (ph:=ph) (ρ:=ρ) (get:=get) (a:=a) λk hk=>hr k (by rw[ho];simp[Op.operands,Call.operands,hg];simpa using hk);refine⟨_,Ku e rv,?_⟩;unfold execOp;rw[ho];show iA P (do let d<-resolve a.eval c o.type;invoke d.target d.args) w _ w;unfold resolve;rw[hg];refine(fK _).bind ?_;have e1:(c.args.toList.map a.eval).toArray=c.args.map a.eval:=by apply dD;simp
  rw[e1];simp only[invoke,eB,Array.append_empty];have:=IW (w:=w) (args:=c.args.map a.eval) hp.1;simpa using this
 ·cases c0
theorem zl6{o:Oper}{c:Call}{x:MX}{xs:List MX}(ho:o.op=.call c)(hc:iP P (.calld x xs) (.call c)=true){f:FuncId}{caps:List D}(ex:X get x=.c (.d (.fn (.func f) caps))){ds:List DV}
  (e:yS (xs.map (X get))=some ds) {v:DV} (hp:gu P f (ds++caps.map .one) v):ic P o get m [] [] v.av:=by
 simp only[iP,aG]at hc;obtain⟨c0,c1⟩:=hc;split at c0
 ·rename_i ox hg;refine SC hp λph ρ w a hr=>?_;have rv:=Ep c1 (ph:=ph) (ρ:=ρ) (get:=get) (a:=a) λk hk=>hr k (by rw[ho];simp[Op.operands,Call.operands,hg];exact .inr (by simpa using hk));have r1:=jf c0 (ph:=ph) (ρ:=ρ) (get:=get) (a:=a) λk hk=>hr k (by rw[ho];simp[Op.operands,Call.operands,hg,hk]);rw[ex]at r1;simp only[RepV,RepC,RepD]at r1;obtain⟨vs,q1,q2,q3⟩:=r1;refine⟨c.args.toList.map a.eval++vs,(Ku e rv).append (RepL.ones q3 q2),?_⟩;unfold execOp;rw[ho];show iA P (do let d<-resolve a.eval c o.type;invoke d.target d.args) w _ w;unfold resolve;rw[hg];simp only[q1,Deferred.ofValue];refine(fK _).bind ?_;have e1:(c.args.toList.map a.eval++vs).toArray=c.args.map a.eval++vs.toArray:=by apply dD;simp
  rw[e1];simp only[invoke,eB];exact IW (w:=w) (args:=c.args.map a.eval++vs.toArray) hp.1
 ·cases c0
theorem zl7:Extern.allGenericRows.lookup Ev=none:=by kernel_rfl
theorem zl8:Extern.allTypedRows.lookup Ev=none:=by kernel_rfl
theorem zl9:Extern.allRows.lookup Ev=some Extern.BytealgCompare.compare:=by kernel_rfl
theorem zm0{fn:Func}(h:fn.name=Ev):Extern.find fn=some Extern.BytealgCompare.compare:=by
 unfold Extern.find;rw[h];dsimp only;rw[zl7,zl8,zl9];rfl
theorem SE:∀(a b:List UInt8), -1<=Lib.compareBytes a b/\Lib.compareBytes a b<=1
|[],[]=>by simp[Lib.compareBytes]
|[],_::_=>by simp[Lib.compareBytes]
|_::_,[]=>by simp[Lib.compareBytes]
| a::as,b::bs=>by
 unfold Lib.compareBytes;have:=SE as bs;split
 ·omega
 ·split
  ·omega
  ·exact this
theorem zm1{o:Oper}{c:Call}{f:FuncId}{x y:MX}(ho:o.op=.call c)(hc:iP P (.cmpS f x y) (.call c)=true){s t:fI}(ex:X get x=.c (.d (.str s)))(ey:X get y=.c (.d (.str t))):
  ic P o get m [] [] (.c (.d (.int .i64 (Lib.compareBytes s.data.toList t.data.toList)))):=by
 simp only[iP]at hc;split at hc
 ·rename_i g ox oy hg ha;simp only[aG,aY]at hc;obtain⟨⟨⟨c0,c1⟩,c2⟩,c3⟩:=hc;subst c0;have hargs:c.args=#[ox,oy]:=by rw[<-au (xs:=c.args),ha]
  split at c1
  ·rename_i fn hfn;simp only[aG,aY]at c1;refine ic.of_pure λm' h1 ph ρ w a hr hgg=>?_;have r1:=jf c2 (ph:=ph) (ρ:=ρ) (get:=get) (a:=a) λk hk=>hgg k (by rw[ho];simp[Op.operands,Call.operands,hg,hargs,hk]);have r2:=jf c3 (ph:=ph) (ρ:=ρ) (get:=get) (a:=a) λk hk=>hgg k (by rw[ho];simp[Op.operands,Call.operands,hg,hargs,hk]);rw[ex]at r1;rw[ey]at r2;simp only[RepV,RepC,RepD]at r1 r2;refine⟨.int .i64 (Lib.compareBytes s.data.toList t.data.toList),?_,?_⟩
   ·unfold execOp;rw[ho];show iA P (do let d<-resolve a.eval c o.type;invoke d.target d.args) w _ w;unfold resolve;rw[hg,hargs];refine(fK _).bind ?_;simp only[invoke,List.map_toArray,List.map_cons,List.map_nil,Array.append_empty];rw[r1.1,r2.1];obtain⟨⟨d1,d2⟩,d3⟩:=c1;have hn:Extern.findNext fn=none:=by simpa using d3
    have:=run_callFunc_extern (w:=w) hfn (by rw[d1];decide) d2 hn (zm0 d1) #[.string s,.string t];rw[Lib.run_compareString]at this;exact this
   ·simp only[RepV,RepC];unfold RepD;have:=SE s.data.toList t.data.toList;refine⟨rfl,?_,?_⟩
    ·simp only[IntKind.min,IntKind.signed,IntKind.bits];simp;omega
    ·simp only[IntKind.max,IntKind.signed,IntKind.bits];simp;omega
  ·cases c1
 ·cases hc
theorem SF{op:BinOp}{T:TypeId}{k:IntKind}{i j:Int}{x y:MX}{d:D}(ex:X get x=.c (.d (.int k i)))(ey:X get y=.c (.d (.int k j)))(H:∀(ph:PH) (w:World),k.min<=i/\i<=k.max->k.min<=j/\j<=k.max->∃v,iA P (binOp op T (.int k i) (.int k j)) w v w/\RepD ph d v)
  (ph:PH) (ρ:RM) (a b:Value) (w:World) (ra:RepV ph ρ (X get x) a) (rb:RepV ph ρ (X get y) b):¬(a=.nilIface/\b=.nilIface)/\(∀c d,¬(a=.agg c/\b=.agg d))/\∃v,iA P (binOp op T a b) w v w/\RepD ph d v:=by
 rw[ex]at ra;rw[ey]at rb;simp only[RepV,RepC,RepD]at ra rb;rw[ra.1,rb.1];exact⟨(by rintro⟨h,_⟩;cases h),(by rintro c d ⟨h,_⟩;cases h),H ph w ra.2 rb.2⟩
theorem SG{K:AV->List Nat->List (Nat × Blk)->Nat->Prop}{mo:xD}{o:Oper}(hc:iP P mo o.op=true)(hK:ev P get m n K mo):∃v rd wr n',ic P o get m rd wr v/\K v rd wr n':=by
 cases mo with
 |mv x=>
  cases ho:o.op<;>rw[ho]at hc<;>first|(simp[iP]at hc;done)|skip
  ·exact⟨_,_,_,_,R6 (.inl ho) (by simpa[iP]using hc),hK⟩
  ·exact⟨_,_,_,_,R6 (.inr ho) (by simpa[iP]using hc),hK⟩
 | pick c a b=>
  cases ho:o.op<;>rw[ho]at hc<;>first|(simp[iP]at hc;done)|skip
  simp only[iP,aG]at hc;simp only[ev]at hK;split at hK
  ·rename_i t et;refine⟨_,[],[],n,zm2 ho hc.1.1 hc.1.2 hc.2 et,?_⟩;cases t
   ·exact hK.2 rfl
   ·exact hK.1 rfl
  ·exact hK.elim
 | binI op x y=>
  cases ho:o.op<;>rw[ho]at hc<;>first|(simp[iP]at hc;done)|skip
  simp only[iP,aG,aI]at hc;obtain⟨⟨c0,c1⟩,c2⟩:=hc;subst c0;simp only[ev]at hK;split at hK
  ·rename_i k i k' j ex ey;obtain⟨k1,hK⟩:=hK;subst k1;split at hK
   ·rename_i d hd;exact⟨_,_,_,_,Ew ho c1 c2 (SF ex ey λph w _ _=>zn2 hd _ ph),hK⟩
   ·exact hK.elim
  ·exact hK.elim
 | divI op x y=>
  cases ho:o.op<;>rw[ho]at hc<;>first|(simp[iP]at hc;done)|skip
  simp only[iP,aG,aI,dG]at hc;obtain⟨⟨⟨c0,c3⟩,c1⟩,c2⟩:=hc;subst c0;simp only[ev]at hK;split at hK
  ·rename_i k i k' j ex ey;obtain⟨k1,k2,hK⟩:=hK;subst k1;refine⟨_,[],[],n,Ew ho c1 c2 (SF ex ey λph w h1 h2=>znG c3 k2 h1 h2 _ ph),?_⟩;rcases c3 with rfl|rfl
   ·rw[aC rfl];exact hK
   ·rw[aB (by decide)];exact hK
  ·exact hK.elim
 | binS op x y=>
  cases ho:o.op<;>rw[ho]at hc<;>first|(simp[iP]at hc;done)|skip
  simp only[iP,aG,aI]at hc;obtain⟨⟨c0,c1⟩,c2⟩:=hc;subst c0;simp only[ev]at hK;split at hK
  ·rename_i i j ex ey;split at hK
   ·rename_i d hd;refine⟨_,_,_,_,Ew ho c1 c2 (λph ρ a b w ra rb=>?_),hK⟩;rw[ex]at ra;rw[ey]at rb;simp only[RepV,RepC,RepD]at ra rb;rw[ra.1,rb.1];exact⟨(by rintro⟨h,_⟩;cases h),(by rintro c d ⟨h,_⟩;cases h),zn3 hd _ ph⟩
   ·exact hK.elim
  ·exact hK.elim
 | cat x y=>
  cases ho:o.op<;>rw[ho]at hc<;>first|(simp[iP]at hc;done)|skip
  simp only[iP,aG,aI]at hc;obtain⟨⟨c0,c1⟩,c2⟩:=hc;subst c0;simp only[ev]at hK;split at hK
  ·rename_i i j ex ey;obtain⟨k1,hK⟩:=hK;refine⟨_,_,_,_,Ew ho c1 c2 (λph ρ a b w ra rb=>?_),hK⟩;rw[ex]at ra;rw[ey]at rb;simp only[RepV,RepC,RepD]at ra rb;rw[ra.1,rb.1];exact⟨(by rintro⟨h,_⟩;cases h),(by rintro c d ⟨h,_⟩;cases h),vK k1 _ ph⟩
  ·exact hK.elim
 | binB op x y=>
  cases ho:o.op<;>rw[ho]at hc<;>first|(simp[iP]at hc;done)|skip
  simp only[iP,aG,aI]at hc;obtain⟨⟨⟨c0,c3⟩,c1⟩,c2⟩:=hc;subst c0;split at c3
  ·rename_i hT;simp only[ev]at hK;split at hK
   ·rename_i i j ex ey;split at hK
    ·rename_i d hd;refine⟨_,_,_,_,Ew ho c1 c2 (λph ρ a b w ra rb=>?_),hK⟩;rw[ex]at ra;rw[ey]at rb;simp only[RepV,RepC,RepD]at ra rb;rw[ra,rb];exact⟨(by rintro⟨h,_⟩;cases h),(by rintro c d ⟨h,_⟩;cases h),zn4 hd hT ph⟩
    ·exact hK.elim
   ·exact hK.elim
  ·cases c3
 | not x=>
  cases ho:o.op<;>rw[ho]at hc<;>first|(simp[iP]at hc;done)|skip
  simp only[iP,aG,aI]at hc;obtain⟨c0,c1⟩:=hc;subst c0;simp only[ev]at hK;split at hK
  ·rename_i i ex;refine⟨_,_,_,_,R7 ho c1 (λph ρ a w ra=>?_),hK⟩;rw[ex]at ra;simp only[RepV,RepC,RepD]at ra;rw[ra];exact⟨_,fK _,rfl⟩
  ·exact hK.elim
 | neg x=>
  cases ho:o.op<;>rw[ho]at hc<;>first|(simp[iP]at hc;done)|skip
  simp only[iP,aG,aI]at hc;obtain⟨c0,c1⟩:=hc;subst c0;simp only[ev]at hK;split at hK
  ·rename_i k i ex;refine⟨_,_,_,_,R7 ho c1 (λph ρ a w ra=>?_),hK⟩;rw[ex]at ra;simp only[RepV,RepC,RepD]at ra;rw[ra.1];refine⟨_,fK _,?_⟩;unfold RepD;exact⟨rfl,IC _ _⟩
  ·exact hK.elim
 | convI k x=>
  cases ho:o.op<;>rw[ho]at hc<;>first|(simp[iP]at hc;done)|skip
  rename_i S U ox;simp only[iP,aG]at hc;obtain⟨⟨c0,c1⟩,c2⟩:=hc;split at c0
  ·rename_i k' hU;simp only[aI]at c0;subst c0;split at c1
   ·rename_i d hS;simp only[ev]at hK;split at hK
    ·rename_i k' i ex;refine⟨_,_,_,_,ic.of_pure λm' h1 ph ρ w a hr hg=>?_,hK⟩;have r1:=jf c2 (ph:=ph) (ρ:=ρ) (get:=get) (a:=a) λk hk=>hg k (by rw[ho];simp[Op.operands,hk]);rw[ex]at r1;simp only[RepV,RepC,RepD]at r1;refine⟨.int k (k.wrap i),?_,?_⟩
     ·unfold execOp;rw[ho];refine fM ?_ (fK _);show iA P (convert S U (a.eval ox)) w _ w;rw[r1.1];exact iA.convert_int hS hU
     ·simp only[RepV,RepC];unfold RepD;exact⟨rfl,IC _ _⟩
    ·exact hK.elim
   ·cases c1
  ·cases c0
 | boxP x=>
  cases ho:o.op<;>rw[ho]at hc<;>first|(simp[iP]at hc;done)|skip
  simp only[ev]at hK;split at hK
  ·rename_i ds e;exact⟨_,_,_,_,znY ho (by simpa[iP]using hc) e,hK⟩
  ·exact hK.elim
 | boxM x=>
  cases ho:o.op<;>rw[ho]at hc<;>first|(simp[iP]at hc;done)|skip
  simp only[ev]at hK;split at hK
  ·rename_i cs e;exact⟨_,_,_,_,zm8 ho (by simpa[iP]using hc) e hK.1,hK.2⟩
  ·exact hK.elim
 | alloc z=>
  cases ho:o.op<;>rw[ho]at hc<;>first|(simp[iP]at hc;done)|skip
  simp only[iP]at hc;split at hc
  ·rename_i i hi;simp only[aG]at hc;simp only[ev]at hK;exact⟨_,_,_,_,zmm ho hi hc.1 hc.2 hK.1,hK.2⟩
  ·cases hc
 | build z ps=>
  cases ho:o.op<;>rw[ho]at hc<;>first|(simp[iP]at hc;done)|skip
  simp only[ev]at hK;split at hK
  ·rename_i cs e;exact⟨_,_,_,_,zlr ho hc e,hK⟩
  ·exact hK.elim
 | buildSl s xs=>
  cases ho:o.op<;>rw[ho]at hc<;>first|(simp[iP]at hc;done)|skip
  simp only[ev]at hK;split at hK
  ·rename_i es e;exact⟨_,_,_,_,zkh ho hc e,hK⟩
  ·exact hK.elim
 | buildSlM s xs=>
  cases ho:o.op<;>rw[ho]at hc<;>first|(simp[iP]at hc;done)|skip
  simp only[ev]at hK;split at hK
  ·rename_i es e;exact⟨_,_,_,_,zjR ho (by simpa only[iP]using hc) e hK.1,hK.2⟩
  ·exact hK.elim
 |load ag sz x=>
  cases ho:o.op<;>rw[ho]at hc<;>first|(simp[iP]at hc;done)|skip
  simp only[iP,aG,aY]at hc;obtain⟨v,rd,h1,h2⟩:=zm7 (m:=m) (K:=λv rd=>K v rd [] n) ho hc.1 hc.2 hK;exact⟨v,rd,[],n,h1,h2⟩
 | store sz x y=>
  cases ho:o.op<;>rw[ho]at hc<;>first|(simp[iP]at hc;done)|skip
  simp only[iP,aG]at hc;obtain⟨⟨c0,c1⟩,c2⟩:=hc;split at c0
  ·rename_i i hi;simp only[aG,aY,aI]at c0;obtain⟨wr,h1,h2⟩:=zmn (m:=m) (K:=λwr=>K (.c (.d .any)) [] wr n) ho hi c0.1 c0.2 c1 c2 hK;exact⟨_,[],wr,n,h1,h2⟩
  ·cases c0
 |faddr off x=>
  cases ho:o.op<;>rw[ho]at hc<;>first|(simp[iP]at hc;done)|skip
  obtain⟨v,h1,h2⟩:=zmp (m:=m) (K:=λv=>K v [] [] n) ho hc hK;exact⟨v,[],[],n,h1,h2⟩
 | field ag off sz x=>
  cases ho:o.op<;>rw[ho]at hc<;>first|(simp[iP]at hc;done)|skip
  simp only[ev]at hK;split at hK
  ·rename_i cs ex;obtain⟨v,h1,h2⟩:=zmq (m:=m) (K:=λv=>K v [] [] n) ho hc ex hK;exact⟨v,[],[],n,h1,h2⟩
  ·exact hK.elim
 |iaddrS s x i=>
  cases ho:o.op<;>rw[ho]at hc<;>first|(simp[iP]at hc;done)|skip
  obtain⟨v,h1,h2⟩:=zlk (m:=m) (K:=λv=>K v [] [] n) ho hc hK;exact⟨v,[],[],n,h1,h2⟩
 |iaddrA len s x i=>
  cases ho:o.op<;>rw[ho]at hc<;>first|(simp[iP]at hc;done)|skip
  obtain⟨v,h1,h2⟩:=zll (m:=m) (K:=λv=>K v [] [] n) ho hc hK;exact⟨v,[],[],n,h1,h2⟩
 | idxA ag len s x i=>
  cases ho:o.op<;>rw[ho]at hc<;>first|(simp[iP]at hc;done)|skip
  simp only[ev]at hK;split at hK
  ·rename_i cs k j ex ei;obtain⟨v,h1,h2⟩:=znb (m:=m) (K:=λv=>K v [] [] n) ho hc ex ei hK.1 hK.2.1 hK.2.2;exact⟨v,[],[],n,h1,h2⟩
  ·exact hK.elim
 | idxS x i=>
  cases ho:o.op<;>rw[ho]at hc<;>first|(simp[iP]at hc;done)|skip
  simp only[ev]at hK;split at hK
  ·rename_i t k j ex ei;obtain⟨k1,hK⟩:=hK;split at hK
   ·rename_i b hb;exact⟨_,_,_,_,znc ho hc ex ei k1 hb,hK⟩
   ·exact hK.elim
  ·exact hK.elim
 |len x=>
  cases ho:o.op<;>rw[ho]at hc<;>first|(simp[iP]at hc;done)|skip
  obtain⟨v,rd,h1,h2⟩:=znV (m:=m) (K:=λv rd=>K v rd [] n) ho hc hK;exact⟨v,rd,[],n,h1,h2⟩
 | lenS x=>
  cases ho:o.op<;>rw[ho]at hc<;>first|(simp[iP]at hc;done)|skip
  simp only[ev]at hK;split at hK
  ·rename_i t ex;exact⟨_,_,_,_,zmY ho hc ex,hK⟩
  ·exact hK.elim
 | nilck x=>
  cases ho:o.op<;>rw[ho]at hc<;>first|(simp[iP]at hc;done)|skip
  rename_i ox;have hx:iI x ox=true:=by simpa only[iP]using hc
  simp only[ev]at hK;split at hK
  ·rename_i b q ex;refine⟨_,_,_,_,LK ho hx (λ{ph ρ v} r=>?_),by rw[ex];exact hK⟩;rw[ex]at r;simp only[RepV,RepC]at r;obtain⟨p,_,e⟩:=r;exact⟨_,e⟩
  ·rename_i s b i q ex;refine⟨_,_,_,_,LK ho hx (λ{ph ρ v} r=>?_),by rw[ex];exact hK⟩;rw[ex]at r;simp only[RepV,RepC]at r;obtain⟨p,_,e⟩:=r;exact⟨_,e⟩
  ·rename_i cs q ex;refine⟨_,_,_,_,LK ho hx (λ{ph ρ v} r=>?_),by rw[ex];exact hK⟩;rw[ex]at r;simp only[RepV,RepC,RepD]at r;obtain⟨B,p,e,_⟩:=r;exact⟨_,e⟩
  ·exact hK.elim
 | extract x i=>
  cases ho:o.op<;>rw[ho]at hc<;>first|(simp[iP]at hc;done)|skip
  simp only[iP,aG,aY]at hc;obtain⟨c0,c1⟩:=hc;subst c0;simp only[ev]at hK;split at hK
  ·rename_i vs ex;split at hK
   ·rename_i v hv;exact⟨_,_,_,_,zkb ho c1 ex hv,hK⟩
   ·exact hK.elim
  ·exact hK.elim
 |slice s x lo hi=>
  cases ho:o.op<;>rw[ho]at hc<;>first|(simp[iP]at hc;done)|skip
  obtain⟨v,h1,h2⟩:=zl4 (m:=m) (K:=λv=>K v [] [] n) ho hc hK;exact⟨v,[],[],n,h1,h2⟩
 | slice00 s x=>
  cases ho:o.op<;>rw[ho]at hc<;>first|(simp[iP]at hc;done)|skip
  simp only[ev]at hK;split at hK
  ·rename_i fl s' es ex;exact⟨_,_,_,_,zkc ho hc ex,hK⟩
  ·exact hK.elim
 | sliceS x lo hi=>
  cases ho:o.op<;>rw[ho]at hc<;>first|(simp[iP]at hc;done)|skip
  simp only[ev]at hK;split at hK
  ·rename_i t ex;obtain⟨v,h1,h2⟩:=zk3 (m:=m) (K:=λv=>K v [] [] n) ho hc ex hK;exact⟨v,[],[],n,h1,h2⟩
  ·exact hK.elim
 | append s bytes x y=>
  cases ho:o.op<;>rw[ho]at hc<;>first|(simp[iP]at hc;done)|skip
  simp only[iP]at hc;split at hc
  ·rename_i ox oy T T' hb ha hta;simp only[aG,bD]at hc;obtain⟨⟨⟨⟨c0,c1⟩,c2⟩,c3⟩,c4⟩:=hc;split at c4
   ·rename_i i hi;simp only[aG,aY,aI]at c4;obtain⟨⟨⟨⟨⟨⟨d1,d2⟩,d3⟩,d4⟩,d5⟩,d6⟩,d7⟩:=c4;obtain⟨v,rd,wr,h1,h2⟩:=zk4 (m:=m) (n:=n) (K:=λv rd wr=>K v rd wr (n+1)) ho hb ha hta c0 c1 c2 c3 hi d1 d2 d3 d4 d5 d6 d7 hK;exact⟨v,rd,wr,n+1,h1,h2⟩
   ·cases c4
  ·cases hc
 | mkfn f caps=>
  cases ho:o.op<;>rw[ho]at hc<;>first|(simp[iP]at hc;done)|skip
  simp only[ev]at hK;split at hK
  ·rename_i cs e;split at hK
   ·rename_i ds hd;have:=Du hd;subst this;exact⟨_,_,_,_,(SB ho hc e).weaken LV,hK⟩
   ·exact⟨_,_,_,_,SB ho hc e,hK⟩
  ·exact hK.elim
 | call f xs=>
  cases ho:o.op<;>rw[ho]at hc<;>first|(simp[iP]at hc;done)|skip
  simp only[ev]at hK;split at hK
  ·rename_i ds e;obtain⟨v,hp,hK⟩:=hK;exact⟨_,_,_,_,zmZ ho hc e hp,hK⟩
  ·exact hK.elim
 | calld x xs=>
  cases ho:o.op<;>rw[ho]at hc<;>first|(simp[iP]at hc;done)|skip
  simp only[ev]at hK;split at hK
  ·rename_i f caps ds ex e;obtain⟨v,hp,hK⟩:=hK;exact⟨_,_,_,_,zl6 ho hc ex e hp,hK⟩
  ·exact hK.elim
 | cmpS f x y=>
  cases ho:o.op<;>rw[ho]at hc<;>first|(simp[iP]at hc;done)|skip
  simp only[ev]at hK;split at hK
  ·rename_i s t ex ey;exact⟨_,_,_,_,zm1 ho hc ex ey,hK⟩
  ·exact hK.elim
 |mkmap=>
  cases ho:o.op<;>rw[ho]at hc<;>first|(simp[iP]at hc;done)|skip
  simp only[ev]at hK;exact⟨_,_,_,_,zms ho (by simpa only[iP]using hc) hK.1,hK.2⟩
 | mlook kk ok ag z x k=>
  cases ho:o.op<;>rw[ho]at hc<;>first|(simp[iP]at hc;done)|skip
  simp only[ev]at hK;split at hK
  ·rename_i b d ex ek;split at hK
   ·rename_i es em;split at hK
    ·rename_i i v hf;exact⟨_,_,_,_,Rl ho hc ex ek em hf,hK⟩
    ·rename_i hf;exact⟨_,_,_,_,Rl ho hc ex ek em hf,hK⟩
    ·exact hK.elim
   ·exact hK.elim
  ·exact hK.elim
 | mset kk x k v=>
  cases ho:o.op<;>rw[ho]at hc<;>first|(simp[iP]at hc;done)|skip
  all_goals
   simp only[iP,aG]at hc;simp only[ev]at hK;split at hK
   ·rename_i b d ex ek;split at hK
    ·rename_i es em;split at hK
     ·rename_i i v' hf
      first
       |exact⟨_,_,_,_,IU (.inl ho) hc.1.1.1 hc.1.1.2 hc.1.2 hc.2 ex ek em hf,hK⟩
       |exact⟨_,_,_,_,IU (.inr ho) hc.1.1.1 hc.1.1.2 hc.1.2 hc.2 ex ek em hf,hK⟩
     ·rename_i hf
      first
       |exact⟨_,_,_,_,IU (.inl ho) hc.1.1.1 hc.1.1.2 hc.1.2 hc.2 ex ek em hf,hK⟩
       |exact⟨_,_,_,_,IU (.inr ho) hc.1.1.1 hc.1.1.2 hc.1.2 hc.2 ex ek em hf,hK⟩
     ·exact hK.elim
    ·exact hK.elim
   ·exact hK.elim
 | mdel kk x k=>
  cases ho:o.op<;>rw[ho]at hc<;>first|(simp[iP]at hc;done)|skip
  simp only[ev]at hK;split at hK
  ·rename_i b d ex ek;split at hK
   ·rename_i es em;split at hK
    ·rename_i i v' hf;exact⟨_,_,_,_,Rm ho hc ex ek em hf,hK⟩
    ·rename_i hf;exact⟨_,_,_,_,Rm ho hc ex ek em hf,hK⟩
    ·exact hK.elim
   ·exact hK.elim
  ·exact hK.elim
 | mlen x=>
  cases ho:o.op<;>rw[ho]at hc<;>first|(simp[iP]at hc;done)|skip
  simp only[ev]at hK;split at hK
  ·rename_i b ex;split at hK
   ·rename_i es em;exact⟨_,_,_,_,zng ho hc ex em hK.1,hK.2⟩
   ·exact hK.elim
  ·exact hK.elim
 | mksl z bytes x=>
  cases ho:o.op<;>rw[ho]at hc<;>first|(simp[iP]at hc;done)|skip
  simp only[ev]at hK;split at hK
  ·rename_i j ex;exact⟨_,_,_,_,znh ho hc ex hK.1 hK.2.1,hK.2.2⟩
  ·exact hK.elim
 | mkslM z bytes x y=>
  cases ho:o.op<;>rw[ho]at hc<;>first|(simp[iP]at hc;done)|skip
  simp only[ev]at hK;split at hK
  ·rename_i j l ex ey;exact⟨_,_,_,_,zmw ho hc ex ey hK.1 hK.2.1 hK.2.2.1 hK.2.2.2.1,hK.2.2.2.2⟩
  ·exact hK.elim
 | minI mx x y=>
  cases ho:o.op<;>rw[ho]at hc<;>first|(simp[iP]at hc;done)|skip
  simp only[ev]at hK;split at hK
  ·rename_i k a k' b ex ey;obtain⟨rfl,hK⟩:=hK;exact⟨_,_,_,_,znj ho hc ex ey,hK⟩
  ·exact hK.elim
 | isNilP ne x=>
  cases ho:o.op<;>rw[ho]at hc<;>first|(simp[iP]at hc;done)|skip
  simp only[ev]at hK;split at hK
  ·rename_i ex;exact⟨_,_,_,_,Rs ho hc (.inl ⟨ex,rfl⟩),hK⟩
  ·rename_i cs off ex;exact⟨_,_,_,_,Rs ho hc (.inr ⟨⟨cs,off,ex⟩,rfl⟩),hK⟩
  ·exact hK.elim
 | isNil ne x=>
  cases ho:o.op<;>rw[ho]at hc<;>first|(simp[iP]at hc;done)|skip
  simp only[ev]at hK;split at hK
  ·rename_i ex;exact⟨_,_,_,_,Rq ho hc ex (.inr ⟨by simp,rfl⟩),hK⟩
  ·rename_i ex;exact⟨_,_,_,_,Rq ho hc ex (.inl rfl),hK⟩
  ·exact hK.elim
 | eqAg ne ks x y=>
  cases ho:o.op<;>rw[ho]at hc<;>first|(simp[iP]at hc;done)|skip
  simp only[ev]at hK;split at hK
  ·rename_i cs cs' ex ey;split at hK
   ·rename_i a b ea eb;split at hK
    ·rename_i t ht;exact⟨_,_,_,_,zni ho hc ex ey ea eb ht,hK⟩
    ·exact hK.elim
   ·exact hK.elim
  ·exact hK.elim
 | callM f xs=>
  cases ho:o.op<;>rw[ho]at hc<;>first|(simp[iP]at hc;done)|skip
  simp only[ev,C9]at hK;obtain⟨l,args,bs,v,bs',hp,hnd,hln,hvs,hal,hlt,hat,hfr,hK⟩:=hK;refine⟨_,_,_,_,Rz hp hnd hln hal hlt hat hfr (λph ρ w a hg=>?_),hK⟩;simp only[iP,aG]at hc;obtain⟨c0,c1⟩:=hc;rename_i c;split at c0
  ·rename_i g hg';simp only[aY]at c0;subst c0;have rv:=Ep c1 (ph:=ph) (ρ:=ρ) (get:=get) (a:=a) λk hk=>hg k (by rw[ho];simp[Op.operands,Call.operands,hg'];simpa using hk);refine⟨_,hvs▸rv,?_⟩;unfold execOp;rw[ho];show iA P (do let d<-resolve a.eval c o.type;invoke d.target d.args) w _ w;unfold resolve;rw[hg'];refine(fK _).bind ?_;have e1:(c.args.toList.map a.eval).toArray=c.args.map a.eval:=by apply dD;simp
   rw[e1];simp only[invoke,eB,Array.append_empty];have:=IW (w:=w) (args:=c.args.map a.eval) hp.1;simpa using this
  ·cases c0
 | calldM x xs=>
  cases ho:o.op<;>rw[ho]at hc<;>first|(simp[iP]at hc;done)|skip
  rename_i c;simp only[ev]at hK;have key:∀(f:FuncId) (caps:List AC),X get x=.c (.fn (.func f) caps)\/(∃ds,caps=ds.map .d/\X get x=.c (.d (.fn (.func f) ds)))->C9 P f (xs.map (X get)++caps.map .c) m n K->∃v rd wr n',ic P o get m rd wr v/\K v rd wr n':=by
   intro f caps hcap hK;simp only[C9]at hK;obtain⟨l,args,bs,v,bs',hp,hnd,hln,hvs,hal,hlt,hat,hfr,hK⟩:=hK;refine⟨_,_,_,_,Rz hp hnd hln hal hlt hat hfr (λph ρ w a hg=>?_),hK⟩;simp only[iP,aG]at hc;obtain⟨c0,c1⟩:=hc;split at c0
   ·rename_i ox hg';have rx:=jf c0 (ph:=ph) (ρ:=ρ) (get:=get) (a:=a) λk hk=>hg k (by rw[ho];simp[Op.operands,Call.operands,hg',hk]);have rv:=Ep c1 (ph:=ph) (ρ:=ρ) (get:=get) (a:=a) λk hk=>hg k (by rw[ho];simp[Op.operands,Call.operands,hg'];right;simpa using hk);have rcap:∃vs:List Value,a.eval ox=.func (.func f) #[] vs.toArray/\vs.length=caps.length/\iJ ph ρ caps vs:=by
     rcases hcap with e|⟨ds,rfl,e⟩
     ·rw[e]at rx;simpa only[RepV,RepC]using rx
     ·rw[e]at rx;simp only[RepV,RepC,RepD]at rx;obtain⟨vs,e1,e2,e3⟩:=rx;exact⟨vs,e1,by simpa using e2,iJ.of_D e3⟩
    obtain⟨vs,e1,e2,e3⟩:=rcap;have app:∀(as:List AV) (us:List Value),zai ph ρ as us->∀(cs:List AC) (ws:List Value),ws.length=cs.length->iJ ph ρ cs ws->zai ph ρ (as++cs.map .c) (us++ws):=by
     intro as
     induction as with
     | nil=>
      intro us hu cs;simp only[zai]at hu;subst hu
      induction cs with
      |nil=>intro ws hl _;cases ws<;>simp_all[zai]
      | cons c cs ih=>
       intro ws hl hr;cases ws with
       |nil=>simp at hl
       |cons w ws=>
        simp only[iJ]at hr;simp only[List.nil_append,List.map_cons,zai,RepV];exact⟨hr.1.2,by simpa using ih ws (by simpa using hl) hr.2⟩
     | cons x as ih=>
      intro us hu cs ws hl hr;cases us with
      |nil=>simp[zai]at hu
      |cons u us=>
       simp only[zai]at hu;simp only[List.cons_append,zai];exact⟨hu.1,ih us hu.2 cs ws hl hr⟩
    refine⟨_,hvs▸app _ _ rv caps vs e2 e3,?_⟩;unfold execOp;rw[ho];show iA P (do let d<-resolve a.eval c o.type;invoke d.target d.args) w _ w;unfold resolve;rw[hg'];simp only[e1];refine(fK _).bind ?_;have e4:(c.args.toList.map a.eval++vs).toArray=c.args.map a.eval++vs.toArray:=by apply dD;simp
    rw[e4];simp only[invoke,eB];exact IW (w:=w) (args:=c.args.map a.eval++vs.toArray) hp.1
   ·cases c0
  split at hK
  ·rename_i f caps ex;exact key f caps (.inl ex) hK
  ·rename_i f caps ex;refine key f (caps.map .d) (.inr ⟨caps,rfl,ex⟩) ?_;rw[bv];exact hK
  ·exact hK.elim
end
end Go.Abs
namespace Go.Abs
def look:List (Nat × AV)->Nat->AV
|[],_=>.c (.d .any)
|(k,v)::l,j=>if j=k then v else look l j
structure St where
 t:List (Nat × AV)
 m:Hp
 n:Nat
def St.get(S:St)(k:Nat):AV:=look S.t k
structure MO where
 g:Option (Nat × Bool)
 dst:Option Nat
 op:xD
def St.put(S:St)(dst:Option Nat)(v:AV)(wr:List (Nat × Blk))(n:Nat):St:=
⟨match dst with|some d=>(d,v)::S.t|none=>S.t,pG S.m wr,n⟩
def uw:AV:=.c (.d (.sc undef))
def St.know(S:St)(t:Nat)(b:Bool):St:=⟨(t,.c (.d (.bool b)))::S.t,S.m,S.n⟩
theorem St.know_get{S:St}{t:Nat}{b:Bool}(h:S.get t=.c (.d (.bool b))):(S.know t b).get=S.get:=by
 funext k;unfold St.get St.know at*
 simp only[look];split
 ·rename_i e;rw[e,h]
 ·rfl
def qf(P:Program):List MO->St->(St->Prop)->Prop
|[],S,K=>K S
| o::os,S,K=>match o.g with
 |none=>ev P S.get S.m S.n (λv _ wr n=>qf P os (S.put o.dst v wr n) K) o.op
 |some (t,want)=>match S.get t with
  |.c (.d (.bool b))=>(b=want->ev P (S.know t want).get S.m S.n (λv _ wr n=>qf P os ((S.know t want).put o.dst v wr n) K) o.op)/\(b=(!want)->qf P os ((S.know t (!want)).put o.dst uw [] S.n) K)
  |.c (.d (.sc (.tuple _)))=>qf P os (S.put o.dst uw [] S.n) K
  |_=>False
structure Ctx where
 h:PH
 ρ:RM
 m:Hp
 w:World
 N:Nat
structure qV (P:Program) (c:Ctx) (get:Nat->AV) (m:Hp) (a:Act) (w:World):Prop where
 gnd:yR P c.h
 defers:a.defers=[]
 size:a.tmps.size=c.N
 ex:∃(h:PH) (ρ:RM),HRel h ρ m w.heap/\yQ c.h c.ρ c.m c.w.heap h ρ m w.heap/\Same c.w w/\∀k,RepV h ρ (get k) (a.tmps.getD k undef)
def xE(ops:Array Oper):Option (Nat × Bool)->Option (Nat × Bool)->Bool
|none,none=>true
|some (t,b),some (j,b')=>b==b'&&((ops[j]?).bind (·.dst))==some t
|_,_=>false
def EE(P:Program)(N:Nat)(ops:Array Oper)(mo:MO)(o:Oper):Bool:=
 iP P mo.op o.op&&mo.dst==o.dst&&(match mo.dst with|some d=>decide (d<N)|none=>true)&&xE ops mo.g o.guard
def si(P:Program)(N:Nat)(ops:Array Oper):List MO->List Oper->Bool
|[],[]=>true
|mo::mos,o::os=>EE P N ops mo o&&si P N ops mos os
|_,_=>false
section
variable {P:Program} {c:Ctx}
theorem SH{a:Act}{dst:Option Nat}{v:Value}{k:Nat}(h:∀d,dst=some d->d<a.tmps.size):
  (a.put dst v).tmps.getD k undef=if dst=some k then v else a.tmps.getD k undef:=by
 cases dst with
 |none=>simp[Act.put]
 | some d=>
  have hd:=h d rfl;simp only[Act.put,af];by_cases hk:d=k
  ·subst hk;simp[aZ,hd]
  ·rw[aB hk];simp[aZ,bS hk]
theorem SI{a:Act}{dst:Option Nat}{v:Value}:(a.put dst v).tmps.size=a.tmps.size:=by
 cases dst<;>simp[Act.put]
theorem put_defers{a:Act}{dst:Option Nat}{v:Value}:(a.put dst v).defers=a.defers:=by
 cases dst<;>rfl
def qG(g:Nat->AV)(dst:Option Nat)(v:AV):Nat->AV:=λk=>if dst=some k then v else g k
theorem St.put_get(S:St)(dst:Option Nat)(v:AV)(wr:List (Nat × Blk))(n:Nat):(S.put dst v wr n).get=qG S.get dst v:=by
 funext k;unfold St.get St.put qG;cases dst with
 |none=>simp
 |some d=>
  simp only[look,af];by_cases h:k=d
  ·subst h;simp
  ·rw[aB h,aB (Ne.symm h)]
theorem SK{get:Nat->AV}{m m':Hp}{a:Act}{w w':World}{h h':PH}{ρ ρ':RM}{dst:Option Nat}{v:AV}{vC:Value}(hG:yR P c.h)(hdef:a.defers=[])(hsz:a.tmps.size=c.N)(hd:∀d,dst=some d->d<c.N)
  (S0:yQ c.h c.ρ c.m c.w.heap h ρ m w.heap) (e0:Same c.w w) (hg:∀k,RepV h ρ (get k) (a.tmps.getD k undef)) (S:Step h ρ m w.heap h' ρ' m' w'.heap) (H:HRel h' ρ' m' w'.heap) (e:Same w w') (rv:RepV h' ρ' v vC):
  qV P c (qG get dst v) m' (a.put dst vC) w' where
 gnd:=hG
 defers:=by rw[Go.Abs.put_defers];exact hdef
 size:=by rw[SI];exact hsz
 ex:=by
  refine⟨h',ρ',H,S0.trans S,e0.trans e,λk=>?_⟩;rw[SH (λd h=>by rw[hsz];exact hd d h)];unfold qG;split
  ·exact rv
  ·exact RepV.mono S.hle S.rle _ _ (hg k)
theorem SL{get:Nat->AV}{m:Hp}{a:Act}{w:World}{dst:Option Nat}(r:qV P c get m a w)(hd:∀d,dst=some d->d<c.N):qV P c (qG get dst uw) m (a.put dst undef) w where
 gnd:=r.gnd
 defers:=by rw[Go.Abs.put_defers];exact r.defers
 size:=by rw[SI];exact r.size
 ex:=by
  obtain⟨h,ρ,H,S0,e0,hg⟩:=r.ex;refine⟨h,ρ,H,S0,e0,λk=>?_⟩;rw[SH (λd h=>by rw[r.size];exact hd d h)];unfold qG;split
  ·simp[uw,RepV,RepC,RepD]
  ·exact hg k
theorem SN{ops:Array Oper}{a:Act}{j t:Nat}{b:Bool}(h:((ops[j]?).bind (·.dst))=some t)(e:a.tmps.getD t undef=.bool b):yielded ops a.tmps j=some b:=by
 unfold yielded;rw[h];simp only[Option.bind_some];rw[aZ]at e;cases ht:a.tmps[t]? with
 |none=>rw[ht]at e;cases e
 |some v=>rw[ht]at e;simp only[Option.getD_some]at e;rw[e]
theorem ziG{ops:Array Oper}{a:Act}{j t:Nat}{x:Array Value}(h:((ops[j]?).bind (·.dst))=some t)(e:a.tmps.getD t undef=.tuple x):yielded ops a.tmps j=none:=by
 unfold yielded;rw[h];simp only[Option.bind_some];rw[aZ]at e;cases ht:a.tmps[t]? with
 |none=>rfl
 |some v=>rw[ht]at e;simp only[Option.getD_some]at e;rw[e]
theorem LW{ops:Array Oper}{a:Act}{o:Oper}{g:Option (Nat × Bool)}(h:xE ops g o.guard=true)(hy:∀t b,g=some (t,b)->a.tmps.getD t undef=.bool b):Region.wanted o (yielded ops a.tmps)=true:=by
 unfold Region.wanted;unfold xE at h;split at h
 ·rename_i hg;rw[hg]
 ·rename_i t b j b' hg;simp only[aG,aY]at h;rw[hg];simp only[SN h.2 (hy t b rfl),aY];rw[h.1]
 ·cases h
theorem LX{ops:Array Oper}{a:Act}{o:Oper}{t:Nat}{b:Bool}(h:xE ops (some (t,b)) o.guard=true)(hy:(a.tmps.getD t undef=.bool (!b))\/∃x,a.tmps.getD t undef=.tuple x):Region.wanted o (yielded ops a.tmps)=false:=by
 unfold Region.wanted;unfold xE at h;split at h
 ·rename_i e _;cases e
 ·rename_i t' b' j b'' e hg;cases e;simp only[aG,aY]at h;obtain⟨h1,h2⟩:=h;subst h1;rw[hg];dsimp only;rcases hy with hy|⟨x,hy⟩
  ·rw[SN h2 hy];cases b<;>rfl
  ·rw[ziG h2 hy];rfl
 ·cases h
theorem LY{ops:Array Oper}{Q:Exit->Act->World->Prop}{K:St->Prop}(hQ:∀S a w,qV P c S.get S.m a w->K S->Q .normal a w):∀{mos:List MO} {os:List Oper} {i:Nat} {S:St} {a:Act} {w:World},si P c.N ops mos os=true->
 (∀j o,os[j]?=some o->ops[i+j]?=some o)->qf P mos S K->qV P c S.get S.m a w->wpOps P ops Q (List.range' i os.length) a w
|[],[],i,S,a,w,_,_,h,r=>by simp only[List.length_nil,List.range'_zero,wpOps];exact hQ S a w r h
|[],_::_,_,_,_,_,h,_,_,_=>by simp[si]at h
|_::_,[],_,_,_,_,h,_,_,_=>by simp[si]at h
| mo::mos,o::os,i,S,a,w,hc,hi,h,r=>by
 simp only[si,aG]at hc;obtain⟨hc0,hcs⟩:=hc;simp only[EE,aG,aY]at hc0;obtain⟨⟨⟨c1,c2⟩,c3⟩,c4⟩:=hc0;have hd:∀d,mo.dst=some d->d<c.N:=λd hd=>by rw[hd]at c3;simpa using c3
 have ho:=hi 0 o (by simp);simp only[Nat.add_zero]at ho;have hi':∀j o',os[j]?=some o'->ops[i+1+j]?=some o':=λj o' hj=>by
  have:=hi (j+1) o' (by simpa using hj);rwa[show i+(j+1)=i+1+j from by omega]at this
 simp only[List.length_cons,dY,wpOps,ho];have run:∀S₁:St,S₁.get=S.get->S₁.m=S.m->ev P S.get S.m S.n (λv _ wr n=>qf P mos (S₁.put mo.dst v wr n) K) mo.op->o.wp P a w (wpOps P ops Q (List.range' (i+1) os.length)) Q:=by
  intro S₁ eg em he;obtain⟨v,rd,wr,n',hs,hk⟩:=SG c1 he;obtain⟨ph,ρ,H,S0,e0,hg⟩:=r.ex;refine hs S.m (λ_ _=>rfl) (λ_ _=>rfl) ph ρ w a H (r.gnd.mono S0.hle) (λk _=>hg k) _ _ λh' ρ' w' vC st K' e rv=>?_;rw[<-c2];refine LY hQ hcs hi' hk ?_;rw[St.put_get,eg];have e2:(S₁.put mo.dst v wr n').m=pG S.m wr:=by rw[<-em];rfl
  rw[e2];exact SK r.gnd r.defers r.size hd S0 e0 hg st K' e rv
 have skip:∀S₁:St,S₁.get=S.get->S₁.m=S.m->qf P mos (S₁.put mo.dst uw [] S.n) K->wpOps P ops Q (List.range' (i+1) os.length) (a.put o.dst undef) w:=by
  intro S₁ eg em hk;rw[<-c2];refine LY hQ hcs hi' hk ?_;rw[St.put_get,eg];have e2:(S₁.put mo.dst uw [] S.n).m=S.m:=by rw[<-em];rfl
  rw[e2];exact SL r hd
 obtain⟨ph,ρ,H,S0,e0,hg⟩:=r.ex;simp only[qf]at h;split at h
 ·rename_i hgm;rw[hgm]at c4;rw[aC (LW c4 (λt b hh=>by cases hh))];exact .inl (run S rfl rfl h)
 ·rename_i t want hgm;rw[hgm]at c4;have rt:=hg t;split at h
  ·rename_i b et;rw[et]at rt;simp only[RepV,RepC,RepD]at rt;by_cases hb:b=want
   ·subst hb;rw[aC (LW c4 (λt' b' hh=>by cases hh;exact rt))];have h1:=h.1 rfl;rw[St.know_get et]at h1;exact .inl (run _ (St.know_get et) rfl h1)
   ·have hb':b=(!want):=by cases b<;>cases want<;>simp_all
    rw[aB (by rw[LX c4 (.inl (by rw[rt,hb']))];simp)];exact skip _ (St.know_get (by rw[et,hb'])) rfl (h.2 hb')
  ·rename_i x et;rw[et]at rt;simp only[RepV,RepC,RepD]at rt;rw[aB (by rw[LX c4 (.inr ⟨x,rt⟩)];simp)];exact skip S rfl rfl h
  ·exact h.elim
end
abbrev gP:=@St.know_get
end Go.Abs
namespace Go.Abs
abbrev FP:=List Nat × List Nat
def nU(P:Program):List MO->St->List FP->(St->List FP->Prop)->Prop
|[],S,fps,K=>K S fps.reverse
| o::os,S,fps,K=>match o.g with
 |none=>ev P S.get S.m S.n (λv rd wr n=>nU P os (S.put o.dst v wr n) ((rd,wr.map (·.1))::fps) K) o.op
 |some (t,want)=>match S.get t with
  |.c (.d (.bool b))=>(b=want->ev P (S.know t want).get S.m S.n (λv rd wr n=>nU P os ((S.know t want).put o.dst v wr n) ((rd,wr.map (·.1))::fps) K) o.op)/\(b=(!want)->nU P os ((S.know t (!want)).put o.dst uw [] S.n) (([],[])::fps) K)
  |.c (.d (.sc (.tuple _)))=>nU P os (S.put o.dst uw [] S.n) (([],[])::fps) K
  |_=>False
def touch(a b:FP):Bool:=a.2.any (λx=>b.1.contains x||b.2.contains x)||b.2.any (λx=>a.1.contains x)
def FC(bef:List Nat)(fps:List FP):Bool:=
(List.range fps.length).all λj=>(List.range j).all λi=>(bef.getD j 0).testBit i|| !touch (fps.getD i ([],[])) (fps.getD j ([],[]))
def LZ(ops:Array Oper)(bef:List Nat):Bool:=
(List.range ops.size).all λj=>match ops[j]? with
 |some o=>(o.after.all λe=> !Region.binds .any e||decide (e.on<j))&&
  (List.range ops.size).all λi=> !(bef.getD j 0).testBit i||o.after.any λe=>Region.binds .any e&&(e.on==i||(bef.getD e.on 0).testBit i)
 |none=>false
def L6(ops:Array Oper)(bef:List Nat):Bool:=
(List.range ops.size).all λj=>(List.range j).all λi=>(bef.getD j 0).testBit i||match ops[i]?,ops[j]? with
 |some a,some b=>a.apart ops b
 |_,_=>false
section
variable {α:Type}
def sj:(Nat->α)->List (Nat × α)->(Nat->α)
|f,[]=>f
|f,(k,v)::l=>sj (upd f k v) l
theorem AJ:∀(l:List (Nat × α)) (f:Nat->α) (k:Nat),(∀x,x∈l->x.1≠k)->sj f l k=f k
|[],_,_,_=>rfl
|(j,v)::l,f,k,h=>by
 simp only[sj];rw[AJ l _ k (λx hx=>h x (by simp[hx]))];exact zcg _ _ (Ne.symm (h (j,v) (by simp)))
theorem L8:∀(l:List (Nat × α)) (f g:Nat->α) (k:Nat),(∃x,x∈l/\x.1=k)->sj f l k=sj g l k
|[],_,_,_,h=>by obtain⟨x,hx,_⟩:=h;cases hx
| (j,v)::l,f,g,k,h=>by
 simp only[sj];by_cases hk:∃x,x∈l/\x.1=k
 ·exact L8 l _ _ k hk
 ·have hne:∀x,x∈l->x.1≠k:=λx hx e=>hk ⟨x,hx,e⟩;rw[AJ l _ k hne,AJ l _ k hne];obtain⟨x,hx,e⟩:=h;rcases aN.1 hx with hx|hx
  ·subst hx;simp only at e;subst e;simp[zaE]
  ·exact absurd e (hne x hx)
theorem zlw(l:List (Nat × α)){f g:Nat->α}{k:Nat}(h:f k=g k):sj f l k=sj g l k:=by
 by_cases hk:∃x,x∈l/\x.1=k
 ·exact L8 l f g k hk
 ·have hne:∀x,x∈l->x.1≠k:=λx hx e=>hk ⟨x,hx,e⟩;rw[AJ l f k hne,AJ l g k hne,h]
def iX(s:Nat->Bool):Nat->(Nat->α)->List (List (Nat × α))->(Nat->α)
|_,f,[]=>f
|i,f,x::l=>iX s (i+1) (if s i then sj f x else f) l
theorem BU{k:Nat}:∀(l:List (List (Nat × α))) (i:Nat) (s t:Nat->Bool) (f g:Nat->α),(∀q x,l[q]?=some x->(∃y,y∈x/\y.1=k)->s (i+q)=t (i+q))->f k=g k->iX s i f l k=iX t i g l k
|[],_,_,_,_,_,_,h=>h
| x::l,i,s,t,f,g,hs,h=>by
 simp only[iX];refine BU l (i+1) s t _ _ (λq y hq hy=>?_) ?_
 ·have:=hs (q+1) y (by simpa using hq) hy;rwa[show i+1+q=i+(q+1)from by omega]
 ·by_cases hk:∃y,y∈x/\y.1=k
  ·have:=hs 0 x (by simp) hk;simp only[Nat.add_zero]at this;rw[this];split
   ·exact zlw x h
   ·exact h
  ·have hne:∀y,y∈x->y.1≠k:=λy hy e=>hk ⟨y,hy,e⟩;have e1:(if s i then sj f x else f) k=f k:=by split<;>simp[AJ x f k hne]
   have e2:(if t i then sj g x else g) k=g k:=by split<;>simp[AJ x g k hne]
   rw[e1,e2,h]
theorem L9{k:Nat}:∀(l:List (List (Nat × α))) (i j:Nat) (s t:Nat->Bool) (f:Nat->α) (x:List (Nat × α)),l[j]?=some x->(∀q,s (i+q)=(t (i+q)||q==j))->(t (i+j)=false)->
 (∀q y,j<q->l[q]?=some y->t (i+q)=true->(∃z,z∈x/\z.1=k)->∀z,z∈y->z.1≠k)->iX s i f l k=sj (iX t i f l) x k
|[],_,_,_,_,_,_,h,_,_,_=>by simp at h
| y ::l,i,0,s,t,f,x,h,hs,ht,hn=>by
 simp at h;subst h;have h0:=hs 0;simp only[Nat.add_zero,beq_self_eq_true,Bool.or_true]at h0 ht;simp only[iX];rw[h0,ht];simp only[if_true,ai,if_false];have hst:∀q,s (i+1+q)=t (i+1+q):=λq=>by
  have:=hs (q+1);rw[show i+(q+1)=i+1+q from by omega]at this;simpa using this
 by_cases hk:∃z,z∈y/\z.1=k
 ·-- the later ones do not write it
  have later:∀(f:Nat->α),iX t (i+1) f l k=f k:=by
   intro f;have:iX t (i+1) f l k=iX (λ_=>false) (i+1) f l k:=by
    refine BU l (i+1) t (λ_=>false) f f (λq x hq hx=>?_) rfl;have h2:=hn (q+1) x (by omega) (by simpa using hq);rw[show i+(q+1)=i+1+q from by omega]at h2;cases htq:t (i+1+q)with
    |false=>rfl
    |true=>
     obtain⟨z,hz,e⟩:=hx;exact absurd e (h2 htq hk z hz)
   rw[this];have none:∀(l:List (List (Nat × α))) (i:Nat) (f:Nat->α),iX (λ_=>false) i f l=f:=by
    intro l
    induction l with
    |nil=>intro i f;rfl
    |cons x l ih=>intro i f;simp only[iX];exact ih _ _
   rw[none]
  have e1:iX s (i+1) (sj f y) l k=iX t (i+1) (sj f y) l k:=BU l (i+1) s t _ _ (λq _ _ _=>hst q) rfl;rw[e1,later];exact L8 y _ _ k hk
 ·have hne:∀z,z∈y->z.1≠k:=λz hz e=>hk ⟨z,hz,e⟩;rw[AJ y _ k hne];exact BU l (i+1) s t _ _ (λq _ _ _=>hst q) (AJ y f k hne)
| y::l,i,j+1,s,t,f,x,h,hs,ht,hn=>by
 have h0:=hs 0;simp only[Nat.add_zero]at h0;have h0':s i=t i:=by simpa using h0
 simp only[iX,h0'];refine L9 l (i+1) j s t _ x (by simpa using h) (λq=>?_) ?_ (λq z hq hz htq hx w hw=>?_)
 ·have:=hs (q+1);rw[show i+(q+1)=i+1+q from by omega]at this;simpa using this
 ·rwa[show i+1+j=i+(j+1)from by omega]
 ·exact hn (q+1) z (by omega) (by simpa using hz) (by rwa[show i+(q+1)=i+1+q from by omega]) hx w hw
end
structure E where
 v:AV
 rd:List Nat
 wr:List (Nat × Blk)
def Cf(get:Nat->AV):Option (Nat × Bool)->Prop
|none=>True
|some (t,b)=>get t=.c (.d (.bool b))
def SQ(get:Nat->AV):Option (Nat × Bool)->Prop
|none=>False
|some (t,b)=>get t=.c (.d (.bool (!b)))\/∃x,get t=.c (.d (.sc (.tuple x)))
def EF(P:Program)(get:Nat->AV)(m:Hp)(mo:MO)(o:Oper)(e:E):Prop:=
(Cf get mo.g/\ic P o get m e.rd e.wr e.v)\/(SQ get mo.g/\e.v=uw/\e.rd=[]/\e.wr=[])
def dw(mo:MO)(e:E):List (Nat × AV):=match mo.dst with|some d=>[(d,e.v)]|none=>[]
theorem IX:∀(l:List (Nat × Blk)) (m:Hp),pG m l=sj m l
|[],_=>rfl
|(k,v)::l,m=>by simp only[pG,sj];exact IX l _
theorem La(get:Nat->AV)(mo:MO)(e:E):qG get mo.dst e.v=sj get (dw mo e):=by
 unfold qG dw;cases mo.dst with
 |none=>funext k;simp[sj]
 |some d=>
  funext k;simp only[sj,upd,af];by_cases h:d=k
  ·subst h;simp
  ·rw[aB h,aB (Ne.symm h)]
def lT(P:Program):(Nat->AV)->Hp->List MO->List Oper->List E->Prop
|_,_,[],[],[]=>True
|get,m,mo::mos,o::os,e::es=>EF P get m mo o e/\lT P (qG get mo.dst e.v) (pG m e.wr) mos os es
|_,_,_,_,_=>False
theorem SS{P:Program}{N:Nat}{ops:Array Oper}{K:St->List FP->Prop}:∀{mos:List MO} {os:List Oper} {S:St} {fps:List FP},si P N ops mos os=true->nU P mos S fps K->
 ∃(es:List E) (S':St),lT P S.get S.m mos os es/\S'.get=iX (λ_=>true) 0 S.get ((mos.zip es).map λx=>dw x.1 x.2)/\S'.m=iX (λ_=>true) 0 S.m (es.map (·.wr))/\K S' (fps.reverse++es.map λe=>(e.rd,e.wr.map (·.1)))
|[],[],S,fps,_,h=>⟨[],S,trivial,rfl,rfl,by simpa[nU]using h⟩
|[],_::_,_,_,h,_=>by simp[si]at h
|_::_,[],_,_,h,_=>by simp[si]at h
| mo ::mos,o::os,S,fps,hc,h=>by
 simp only[si,aG]at hc;obtain⟨hc0,hcs⟩:=hc;simp only[EE,aG,aY]at hc0;obtain⟨⟨⟨c1,c2⟩,c3⟩,c4⟩:=hc0;have shift:∀{β:Type} (l:List (List (Nat × β))) (i j:Nat) (f:Nat->β),iX (λ_=>true) i f l=iX (λ_=>true) j f l:=by
  intro β l
  induction l with
  |nil=>intro i j f;rfl
  |cons x l ih=>intro i j f;simp only[iX];exact ih _ _ _
 have fin:∀(S₁:St) (e:E) (n:Nat),S₁.get=S.get->S₁.m=S.m->EF P S.get S.m mo o e->nU P mos (S₁.put mo.dst e.v e.wr n) ((e.rd,e.wr.map (·.1))::fps) K->∃(es:List E) (S':St),lT P S.get S.m (mo::mos) (o::os) es/\
   S'.get=iX (λ_=>true) 0 S.get (((mo::mos).zip es).map λx=>dw x.1 x.2)/\S'.m=iX (λ_=>true) 0 S.m (es.map (·.wr))/\K S' (fps.reverse++es.map λe=>(e.rd,e.wr.map (·.1))):=by
  intro S₁ e n eg em hs hr;obtain⟨es,S',t1,t2,t3,t4⟩:=SS hcs hr;have e1:(S₁.put mo.dst e.v e.wr n).get=qG S.get mo.dst e.v:=by rw[<-eg];exact St.put_get ..
  have e2:(S₁.put mo.dst e.v e.wr n).m=pG S.m e.wr:=by rw[<-em];rfl
  refine⟨e::es,S',⟨hs,by rw[<-e1,<-e2];exact t1⟩,?_,?_,by simpa using t4⟩
  ·rw[t2,e1,La];simp only[List.zip_cons_cons,List.map_cons,iX,if_true];exact shift _ _ _ _
  ·rw[t3,e2,IX];simp only[List.map_cons,iX,if_true];exact shift _ _ _ _
 have main:∃(S₁:St) (e:E) (n:Nat),S₁.get=S.get/\S₁.m=S.m/\EF P S.get S.m mo o e/\nU P mos (S₁.put mo.dst e.v e.wr n) ((e.rd,e.wr.map (·.1))::fps) K:=by
  have run:∀S₁:St,S₁.get=S.get->S₁.m=S.m->Cf S.get mo.g->ev P S.get S.m S.n (λv rd wr n=>nU P mos (S₁.put mo.dst v wr n) ((rd,wr.map (·.1))::fps) K) mo.op->
    ∃(S₁:St) (e:E) (n:Nat),S₁.get=S.get/\S₁.m=S.m/\EF P S.get S.m mo o e/\nU P mos (S₁.put mo.dst e.v e.wr n) ((e.rd,e.wr.map (·.1))::fps) K:=λS₁ eg em hy he=>by
   obtain⟨v,rd,wr,n',hs,hk⟩:=SG c1 he;exact⟨S₁,⟨v,rd,wr⟩,n',eg,em,.inl ⟨hy,hs⟩,hk⟩
  have skip:∀S₁:St,S₁.get=S.get->S₁.m=S.m->SQ S.get mo.g->nU P mos (S₁.put mo.dst uw [] S.n) (([],[])::fps) K->
    ∃(S₁:St) (e:E) (n:Nat),S₁.get=S.get/\S₁.m=S.m/\EF P S.get S.m mo o e/\nU P mos (S₁.put mo.dst e.v e.wr n) ((e.rd,e.wr.map (·.1))::fps) K:=λS₁ eg em hy hk=>
   ⟨S₁,⟨uw,[],[]⟩,S.n,eg,em,.inr ⟨hy,rfl,rfl,rfl⟩,hk⟩
  simp only[nU]at h;split at h
  ·rename_i hg;exact run S rfl rfl (by rw[hg];trivial) h
  ·rename_i t want hg;split at h
   ·rename_i b et;by_cases hb:b=want
    ·subst hb;have h1:=h.1 rfl;rw[gP et]at h1;exact run _ (gP et) rfl (by rw[hg];exact et) h1
    ·have hb':b=(!want):=by cases b<;>cases want<;>simp_all
     exact skip _ (gP (by rw[et,hb'])) rfl (by rw[hg];exact .inl (by rw[et,hb'])) (h.2 hb')
   ·rename_i x et;exact skip S rfl rfl (by rw[hg];exact .inr ⟨x,et⟩) h
   ·exact h.elim
 obtain⟨S₁,e,n,eg,em,h1,h2⟩:=main;exact fin S₁ e n eg em h1 h2
theorem lT.nth{P:Program}:∀{mos:List MO} {os:List Oper} {es:List E} {get:Nat->AV} {m:Hp} {j:Nat} {o:Oper},lT P get m mos os es->os[j]?=some o->
 ∃mo e,mos[j]?=some mo/\es[j]?=some e/\EF P (iX (λi=>decide (i<j)) 0 get ((mos.zip es).map λx=>dw x.1 x.2)) (iX (λi=>decide (i<j)) 0 m (es.map (·.wr))) mo o e
|[],[],[],_,_,j,o,_,h=>by simp at h
|[],[],_::_,_,_,_,_,h,_=>by simp[lT]at h
|[],_::_,_,_,_,_,_,h,_=>by simp[lT]at h
|_::_,[],_,_,_,_,_,h,_=>by simp[lT]at h
|_::_,_::_,[],_,_,_,_,h,_=>by simp[lT]at h
| mo::mos,o'::os,e::es,get,m,0,o,h,ho=>by
 simp only[lT]at h;simp at ho;subst ho;have none:∀{β:Type} (l:List (List (Nat × β))) (i:Nat) (f:Nat->β),iX (λi=>decide (i<0)) i f l=f:=by
  intro β l
  induction l with
  |nil=>intro i f;rfl
  |cons x l ih=>intro i f;simp only[iX];simpa using ih _ _
 refine⟨mo,e,rfl,rfl,?_⟩;rw[none,none];exact h.1
| mo::mos,o'::os,e::es,get,m,j+1,o,h,ho=>by
 simp only[lT]at h;obtain⟨mo',e',h1,h2,h3⟩:=lT.nth h.2 (by simpa using ho);have shift:∀{β:Type} (l:List (List (Nat × β))) (i:Nat) (f:Nat->β),iX (λi=>decide (i<j+1)) (i+1) f l=iX (λi=>decide (i<j)) i f l:=by
  intro β l
  induction l with
  |nil=>intro i f;rfl
  |cons x l ih=>intro i f;simp only[iX];rw[ih];simp
 refine⟨mo',e',by simpa using h1,by simpa using h2,?_⟩;simp only[List.zip_cons_cons,List.map_cons,iX,Nat.zero_lt_succ,decide_true,if_true];rw[shift,shift,<-La,<-IX];exact h3
def lu(l:Array Bool):Nat->Bool:=λi=>l.getD i false
theorem Lb{l:Array Bool}{j q:Nat}(hj:j<l.size):lu (l.setIfInBounds j true) q=(lu l q||q==j):=by
 unfold lu;by_cases h:q=j
 ·subst h;simp[aZ,hj]
 ·have:(q==j)=false:=by simpa using h
  rw[this,Bool.or_false];simp[aZ,bS (Ne.symm h)]
def cnt(l:Array Bool):Nat:=l.toList.countP (λb=>b)
theorem znC{l:Array Bool}{j:Nat}(hj:j<l.size)(h:lu l j=false):cnt (l.setIfInBounds j true)=cnt l+1:=by
 unfold cnt;have key:∀(l:List Bool) (j:Nat),j<l.length->l.getD j false=false->(l.set j true).countP (λb=>b)=l.countP (λb=>b)+1:=by
  intro l
  induction l with
  |nil=>intro j h;simp at h
  | cons b l ih=>
   intro j hj hb;cases j with
   |zero=>simp at hb;subst hb;simp
   |succ j=>
    simp only[List.set_cons_succ,List.countP_cons];rw[ih j (by simpa using hj) (by simpa using hb)];omega
 rw[Array.toList_setIfInBounds];refine key l.toList j (by simpa using hj) ?_;unfold lu at h;rw[aZ]at h;simpa[aH]using h
theorem zmD{l:Array Bool}(h:cnt l=l.size):∀i,i<l.size->lu l i=true:=by
 intro i hi;unfold cnt at h;have h2:l.toList.countP (λb=>b)=l.toList.length:=by simpa using h
 have:=List.countP_eq_length.1 h2;have h3:=this l[i] (by simp);unfold lu;simp[aZ,hi,h3]
section
variable {P:Program} {c:Ctx}
theorem SV{ops:Array Oper}{l:Array Bool}{i:Nat}:i∈Region.ready .any ops l->i<ops.size/\l.getD i true=false/\∃o,ops[i]?=some o/\∀e,e∈o.after->Region.binds .any e=true->lu l e.on=true:=by
 intro h;unfold Region.ready at h;rw[bB]at h;obtain⟨h1,h2⟩:=h;have hi:i<ops.size:=by simpa using h1
 simp only[aG,bD]at h2;refine⟨hi,h2.1,ops[i],bJ hi,λe he hb=>?_⟩;have h3:=h2.2;rw[bJ hi]at h3;simp only[Option.map_some,Option.getD_some,Array.all_eq_true']at h3;have:=h3 e he;rw[hb]at this;simpa[lu]using this
theorem zmE{ops:Array Oper}{l:Array Bool}{i:Nat}{o:Oper}(hi:ops[i]?=some o)(hl:l.getD i true=false)(h:∀e,e∈o.after->Region.binds .any e=true->lu l e.on=true):i∈Region.ready .any ops l:=by
 unfold Region.ready;rw[bB];have hlt:i<ops.size:=by
  rcases aW i ops.size with h1|h1
  ·exact h1
  ·rw[aj h1]at hi;cases hi
 refine⟨by simpa using hlt,?_⟩;simp only[hl,Bool.not_false,Bool.true_and,hi,Option.map_some,Option.getD_some,Array.all_eq_true'];intro e he;cases hb:Region.binds .any e with
 |false=>rfl
 |true=>simpa[lu]using h e he hb
theorem Lc{l:Array Bool}{i:Nat}(hi:i<l.size):l.getD i true=lu l i:=by
 unfold lu;simp[aZ,hi]
theorem SX{ops:Array Oper}{bef:List Nat}(h:LZ ops bef=true){j:Nat}{o:Oper}(ho:ops[j]?=some o):
  (∀e,e∈o.after->Region.binds .any e=true->e.on<j)/\∀i,i<ops.size->(bef.getD j 0).testBit i=true->∃e,e∈o.after/\Region.binds .any e=true/\(e.on=i\/(bef.getD e.on 0).testBit i=true):=by
 have hlt:j<ops.size:=by
  rcases aW j ops.size with h1|h1
  ·exact h1
  ·rw[aj h1]at ho;cases ho
 have:=ah.1 h j (by simpa using hlt);rw[ho]at this;simp only[aG,Array.all_eq_true',ah,List.mem_range]at this;refine⟨λe he hb=>?_,λi hi hb=>?_⟩
 ·have h1:=this.1 e he;rw[hb]at h1;simpa using h1
 ·have h2:=this.2 i hi;rw[hb]at h2;simp only[Bool.not_true,d9,Array.any_eq_true',aG,dG,aY]at h2;obtain⟨e,he,h3,h4⟩:=h2;exact⟨e,he,h3,h4⟩
theorem Ld{ops:Array Oper}{bef:List Nat}(h:L6 ops bef=true){i j:Nat}{a b:Oper}(hij:i<j)(ha:ops[i]?=some a)(hb:ops[j]?=some b):(bef.getD j 0).testBit i=true\/a.apart ops b=true:=by
 have hlt:j<ops.size:=by
  rcases aW j ops.size with h1|h1
  ·exact h1
  ·rw[aj h1]at hb;cases hb
 have h1:=ah.1 h j (by simpa using hlt);have h2:=ah.1 h1 i (by simpa using hij);rw[ha,hb]at h2;simpa using h2
theorem Le{bef:List Nat}{fps:List FP}(h:FC bef fps=true){i j:Nat}{a b:FP}(hij:i<j)(ha:fps[i]?=some a)(hb:fps[j]?=some b):(bef.getD j 0).testBit i=true\/touch a b=false:=by
 have hlt:j<fps.length:=by
  rcases aW j fps.length with h1|h1
  ·exact h1
  ·rw[aS h1]at hb;cases hb
 have h1:=ah.1 h j (by simpa using hlt);have h2:=ah.1 h1 i (by simpa using hij);rw[aH (l:=fps),aH (l:=fps),ha,hb]at h2;simpa using h2
theorem IY{a b:FP}(h:touch a b=false){x:Nat}:(x∈a.2->x∉b.1/\x∉b.2)/\(x∈b.2->x∉a.1):=by
 unfold touch at h;simp only[Bool.or_eq_false_iff,dX,dR,dG,dU]at h;exact⟨λhx=>h.1 x hx,λhx=>by simpa using h.2 x hx⟩
theorem Lf{N:Nat}{ops:Array Oper}:∀{mos:List MO} {os:List Oper} {j:Nat} {mo:MO} {o:Oper},si P N ops mos os=true->mos[j]?=some mo->os[j]?=some o->EE P N ops mo o=true
|[],_,_,_,_,_,h,_=>by simp at h
|_::_,[],_,_,_,_,_,h=>by simp at h
|mo::mos,o::os,0,mo',o',h,h1,h2=>by
 simp at h1 h2;subst h1 h2;simp only[si,aG]at h;exact h.1
|mo::mos,o::os,j+1,mo',o',h,h1,h2=>by
 simp only[si,aG]at h;exact Lf h.2 (by simpa using h1) (by simpa using h2)
theorem Lg{N:Nat}{ops:Array Oper}:∀{mos:List MO} {os:List Oper},si P N ops mos os=true->mos.length=os.length
|[],[],_=>rfl
|[],_::_,h=>by simp[si]at h
|_::_,[],h=>by simp[si]at h
|_::_,_::_,h=>by
 simp only[si,aG]at h;simp[Lg h.2]
theorem lT.len:∀{mos:List MO} {os:List Oper} {es:List E} {get:Nat->AV} {m:Hp},lT P get m mos os es->es.length=os.length
|[],[],[],_,_,_=>rfl
|[],[],_::_,_,_,h=>by simp[lT]at h
|[],_::_,_,_,_,h=>by simp[lT]at h
|_::_,[],_,_,_,h=>by simp[lT]at h
|_::_,_::_,[],_,_,h=>by simp[lT]at h
|_::_,_::_,_::_,_,_,h=>by simp only[lT]at h;simp[lT.len h.2]
theorem zlx{ops:Array Oper}{bef:List Nat}{mos:List MO}{es:List E}{get:Nat->AV}{m:Hp}{Q:Exit->Act->World->Prop}(hc:si P c.N ops mos ops.toList=true)(ht:lT P get m mos ops.toList es)
  (hE:LZ ops bef=true) (hT:L6 ops bef=true) (hF:FC bef (es.map λe=>(e.rd,e.wr.map (·.1)))=true)
  (hQ:∀a w,qV P c (iX (λ_=>true) 0 get ((mos.zip es).map λx=>dw x.1 x.2)) (iX (λ_=>true) 0 m (es.map (·.wr))) a w->Q .normal a w):
  ∀(fuel:Nat) (l:Array Bool) (a:Act) (w:World),l.size=ops.size->cnt l+fuel=ops.size->(∀j i,lu l j=true->(bef.getD j 0).testBit i=true->i<ops.size->lu l i=true)->
   qV P c (iX (lu l) 0 get ((mos.zip es).map λx=>dw x.1 x.2)) (iX (lu l) 0 m (es.map (·.wr))) a w->wpAny P .any ops Q fuel l a w:=by
 have len1:=Lg hc;have len2:=ht.len;have len3:ops.toList.length=ops.size:=by simp
 -- when all have come up
 have done:∀(l:Array Bool) (a:Act) (w:World),(∀i,i<ops.size->lu l i=true)->qV P c (iX (lu l) 0 get ((mos.zip es).map λx=>dw x.1 x.2)) (iX (lu l) 0 m (es.map (·.wr))) a w->Q .normal a w:=by
  intro l a w hl r;refine hQ a w ?_;have e1:iX (lu l) 0 get ((mos.zip es).map λx=>dw x.1 x.2)=iX (λ_=>true) 0 get ((mos.zip es).map λx=>dw x.1 x.2):=by
   funext k;refine BU _ 0 _ _ _ _ (λq x hq _=>?_) rfl;have hlt:q<((mos.zip es).map λx=>dw x.1 x.2).length:=by
    rcases aW q ((mos.zip es).map λx=>dw x.1 x.2).length with h|h
    ·exact h
    ·rw[aS h]at hq;cases hq
   simp only[aU,List.length_zip]at hlt;rw[Nat.zero_add];exact hl q (by omega)
  have e2:iX (lu l) 0 m (es.map (·.wr))=iX (λ_=>true) 0 m (es.map (·.wr)):=by
   funext k;refine BU _ 0 _ _ _ _ (λq x hq _=>?_) rfl;have hlt:q<(es.map (·.wr)).length:=by
    rcases aW q (es.map (·.wr)).length with h|h
    ·exact h
    ·rw[aS h]at hq;cases hq
   simp only[aU]at hlt;rw[Nat.zero_add];exact hl q (by omega)
  rw[<-e1,<-e2];exact r
 have allOf:∀(l:Array Bool),l.size=ops.size->Region.ready .any ops l=[]->∀i,i<ops.size->lu l i=true:=by
  intro l hs hr i
  induction i using Nat.strongRecOn with
  | _ i ih=>
   intro hi;cases hli:lu l i with
   |true=>rfl
   | false=>
    have hmem:i∈Region.ready .any ops l:=by
     refine zmE (bJ hi) (by rw[Lc (by omega)];exact hli) λe he hb=>?_;have h1:=(SX hE (bJ hi)).1 e he hb;exact ih e.on h1 (by omega)
    rw[hr]at hmem;cases hmem
 intro fuel
 induction fuel with
 | zero=>
  intro l a w hs hcnt hcl r;have hall:=zmD (l:=l) (by omega);refine⟨?_,done l a w (λi hi=>hall i (by omega)) r⟩;cases hr:Region.ready .any ops l with
  |nil=>rfl
  |cons i t=>
   have:=SV (by rw[hr];exact List.mem_cons_self:i∈Region.ready .any ops l);rw[Lc (by omega),hall i (by omega)]at this;exact absurd this.2.1 (by simp)
 | succ fuel ih=>
  intro l a w hs hcnt hcl r;refine⟨λhr=>done l a w (allOf l hs hr) r,λj hj=>?_⟩;obtain⟨hjs,hjl,o,ho,hedge⟩:=SV hj;rw[Lc (by omega)]at hjl;have hot:ops.toList[j]?=some o:=by simpa using ho
  obtain⟨mo,e,hmo,he,hstep⟩:=ht.nth hot;have hc0:=Lf hc hmo hot;simp only[EE,aG,aY]at hc0;obtain⟨⟨⟨c1,c2⟩,c3⟩,c4⟩:=hc0;have hd:∀d,mo.dst=some d->d<c.N:=λd hd=>by rw[hd]at c3;simpa using c3
  -- what must come before has come
  have pre:∀i,i<ops.size->(bef.getD j 0).testBit i=true->lu l i=true:=by
   intro i hi hb;obtain⟨ed,h1,h2,h3⟩:=(SX hE ho).2 i hi hb;have h4:=hedge ed h1 h2;rcases h3 with h3|h3
   ·rw[<-h3];exact h4
   ·exact hcl ed.on i h4 h3 hi
  have post:∀i,(bef.getD i 0).testBit j=true->lu l i=false:=by
   intro i hb;cases hli:lu l i with
   |false=>rfl
   |true=>have:=hcl i j hli hb hjs;rw[hjl]at this;cases this
  -- the row of temporaries that operation q writes
  have rowd:∀(q:Nat) (x:List (Nat × AV)),((mos.zip es).map λx=>dw x.1 x.2)[q]?=some x->∃oq:Oper,ops[q]?=some oq/\∀k,(∃y,y∈x/\y.1=k)->oq.dst=some k:=by
   intro q x hq;simp only[List.getElem?_map,aV]at hq;obtain⟨z,hz,hx⟩:=hq;have hlt:q<(mos.zip es).length:=by
    rcases aW q (mos.zip es).length with h|h
    ·exact h
    ·rw[aS h]at hz;cases hz
   simp only[List.length_zip]at hlt;have hqs:q<ops.size:=by omega
   refine⟨ops[q],bJ hqs,λk hk=>?_⟩;have hzm:mos[q]?=some z.1:=by
    have:=List.getElem?_zip_eq_some.1 hz;exact this.1
   have hcq:=Lf hc hzm (show ops.toList[q]?=some ops[q] by simp[hqs]);simp only[EE,aG,aY]at hcq;rw[<-hcq.1.1.2];obtain⟨y,hy,hk⟩:=hk;rw[<-hx]at hy;unfold dw at hy;split at hy
   ·rename_i d hdz;simp only[aK]at hy;subst hy;rw[hdz];simp only at hk;rw[hk]
   ·cases hy
  have rowb:∀(q:Nat) (x:List (Nat × Blk)),(es.map (·.wr))[q]?=some x->∃fq:FP,(es.map λe=>(e.rd,e.wr.map (·.1)))[q]?=some fq/\∀k,(∃y,y∈x/\y.1=k)->k∈fq.2:=by
   intro q x hq;simp only[List.getElem?_map,aV]at hq;obtain⟨z,hz,hx⟩:=hq;refine⟨(z.rd,z.wr.map (·.1)),by simp[List.getElem?_map,hz],λk hk=>?_⟩;obtain⟨y,hy,hk⟩:=hk;rw[<-hx]at hy;exact aa.2 ⟨y,hy,hk⟩
  have hfj:(es.map λe=>(e.rd,e.wr.map (·.1)))[j]?=some (e.rd,e.wr.map (·.1)):=by simp[List.getElem?_map,he]
  -- temporaries that it reads are as in the text
  have agT:∀k,k∈o.looksAt ops->iX (lu l) 0 get ((mos.zip es).map λx=>dw x.1 x.2) k=iX (λi=>decide (i<j)) 0 get ((mos.zip es).map λx=>dw x.1 x.2) k:=by
   intro k hk;refine BU _ 0 _ _ _ _ (λq x hq hx=>?_) rfl;rw[Nat.zero_add];obtain⟨oq,hoq,hdq⟩:=rowd q x hq;have hdk:=hdq k hx;have hqs:q<ops.size:=by
    rcases aW q ops.size with h1|h1
    ·exact h1
    ·rw[aj h1]at hoq;cases hoq
   rcases Nat.lt_trichotomy q j with h|h|h
   ·rw[bz h];rcases Ld hT h hoq ho with hb|hap
    ·exact pre q hqs hb
    ·exact absurd hk ((Oper.apart_spec hap).1 k hdk)
   ·subst h;rw[hjl];simp
   ·rw[bK (by omega)];rcases Ld hT h ho hoq with hb|hap
    ·exact post q hb
    ·exact absurd hk ((Oper.apart_spec hap).2.2 k hdk)
  have agB:∀k,(k∈e.rd\/k∈e.wr.map (·.1))->iX (lu l) 0 m (es.map (·.wr)) k=iX (λi=>decide (i<j)) 0 m (es.map (·.wr)) k:=by
   intro k hk;refine BU _ 0 _ _ _ _ (λq x hq hx=>?_) rfl;rw[Nat.zero_add];obtain⟨fq,hfq,hwq⟩:=rowb q x hq;have hkq:=hwq k hx;have hqs:q<ops.size:=by
    have:q<(es.map λe=>(e.rd,e.wr.map (·.1))).length:=by
     rcases aW q (es.map λe=>(e.rd,e.wr.map (·.1))).length with h1|h1
     ·exact h1
     ·rw[aS h1]at hfq;cases hfq
    simp only[aU]at this;omega
   rcases Nat.lt_trichotomy q j with h|h|h
   ·rw[bz h];rcases Le hF h hfq hfj with hb|hap
    ·exact pre q hqs hb
    ·have:=(IY hap (x:=k)).1 hkq;rcases hk with hk|hk
     ·exact absurd hk this.1
     ·exact absurd hk this.2
   ·subst h;rw[hjl];simp
   ·rw[bK (by omega)];rcases Le hF h hfj hfq with hb|hap
    ·exact post q hb
    ·rcases hk with hk|hk
     ·exact absurd hk ((IY hap (x:=k)).2 hkq)
     ·exact absurd hkq ((IY hap (x:=k)).1 hk).2
  have hjsz:j<l.size:=by omega
  -- what has come up with it
  have insT:iX (lu (l.setIfInBounds j true)) 0 get ((mos.zip es).map λx=>dw x.1 x.2)=qG (iX (lu l) 0 get ((mos.zip es).map λx=>dw x.1 x.2)) mo.dst e.v:=by
   funext k;rw[La];refine L9 _ 0 j _ _ _ (dw mo e) ?_ (λq=>by rw[Nat.zero_add];exact Lb hjsz) (by rw[Nat.zero_add];exact hjl) (λq y hq hy hlq hz z hz'=>?_)
   ·simp only[List.getElem?_map,aV];exact⟨(mo,e),List.getElem?_zip_eq_some.2 ⟨hmo,he⟩,rfl⟩
   ·rw[Nat.zero_add]at hlq;obtain⟨oq,hoq,hdq⟩:=rowd q y hy;intro hzk;have h1:=hdq k ⟨z,hz',hzk⟩;have h2:o.dst=some k:=by
     rw[<-c2];obtain⟨z0,hz0,hz0k⟩:=hz;unfold dw at hz0;split at hz0
     ·rename_i d hdz;simp only[aK]at hz0;subst hz0;rw[hdz];simp only at hz0k;rw[hz0k]
     ·cases hz0
    rcases Ld hT hq ho hoq with hb|hap
    ·rw[post q hb]at hlq;cases hlq
    ·exact(Oper.apart_spec hap).2.1 k h2 h1
  have insB:iX (lu (l.setIfInBounds j true)) 0 m (es.map (·.wr))=pG (iX (lu l) 0 m (es.map (·.wr))) e.wr:=by
   funext k;rw[IX];refine L9 _ 0 j _ _ _ e.wr ?_ (λq=>by rw[Nat.zero_add];exact Lb hjsz) (by rw[Nat.zero_add];exact hjl) (λq y hq hy hlq hz z hz'=>?_)
   ·simp[List.getElem?_map,he]
   ·rw[Nat.zero_add]at hlq;obtain⟨fq,hfq,hwq⟩:=rowb q y hy;intro hzk;have h1:=hwq k ⟨z,hz',hzk⟩;rcases Le hF hq hfj hfq with hb|hap
    ·rw[post q hb]at hlq;cases hlq
    ·obtain⟨z0,hz0,hz0k⟩:=hz;exact((IY hap (x:=k)).1 (aa.2 ⟨z0,hz0,hz0k⟩)).2 h1
  have next:∀(a':Act) (w':World),qV P c (qG (iX (lu l) 0 get ((mos.zip es).map λx=>dw x.1 x.2)) mo.dst e.v) (pG (iX (lu l) 0 m (es.map (·.wr))) e.wr) a' w'->wpAny P .any ops Q fuel (l.setIfInBounds j true) a' w':=by
   intro a' w' r';refine ih _ a' w' (by simpa using hs) (by rw[znC hjsz hjl];omega) (λq i hq hb hi=>?_) (by rw[insT,insB];exact r');rw[Lb hjsz]at hq⊢;simp only[dG,aY]at hq⊢;rcases hq with hq|hq
   ·exact .inl (hcl q i hq hb hi)
   ·subst hq;exact .inl (pre i hi hb)
  obtain⟨ph,ρ,H,S0,e0,hg⟩:=r.ex;have looks:∀k,Operand.tmp k∈o.op.operands->k∈o.looksAt ops:=λk hk=>List.mem_append_left _ (List.mem_filterMap.2 ⟨.tmp k,by simpa using hk,rfl⟩);have guardT:∀t b,mo.g=some (t,b)->t∈o.looksAt ops:=by
   intro t b hgm;rw[hgm]at c4;unfold xE at c4;split at c4
   ·rename_i e' _;cases e'
   ·rename_i t' b' j' b'' e' hgo;cases e';simp only[aG,aY]at c4;refine List.mem_append_right _ ?_;rw[hgo];simp only[c4.2];simp
   ·cases c4
  unfold wpOp;rw[ho];dsimp only;rcases hstep with⟨hy,hsem⟩|⟨hn,hv,hrd,hwr⟩
  ·rw[aC (LW c4 (λt b hgm=>by
    have:=hg t;rw[agT t (guardT t b hgm)]at this;rw[hgm]at hy;simp only[Cf]at hy;rw[hy]at this
    simpa only[RepV,RepC,RepD]using this))]
   refine .inl (hsem (iX (lu l) 0 m (es.map (·.wr))) (λb hb=>agB b (.inl hb)) (λx hx=>agB x.1 (.inr (aa.2 ⟨x,hx,rfl⟩))) ph ρ w a H (r.gnd.mono S0.hle)
    (λk hk=>by rw[<-agT k (looks k hk)];exact hg k) _ _ λh' ρ' w' vC st K' e1 rv=>?_)
   rw[<-c2];exact next _ _ (SK r.gnd r.defers r.size hd S0 e0 hg st K' e1 rv)
  ·cases hgm:mo.g with
   |none=>rw[hgm]at hn;exact hn.elim
   | some p=>
    obtain⟨t,b⟩:=p;rw[hgm]at hn c4;have:=hg t;rw[agT t (guardT t b hgm)]at this;rw[aB (by
     rw[LX c4 (by
      rcases hn with hn|⟨x,hn⟩
      ·rw[hn]at this;exact .inl (by simpa only[RepV,RepC,RepD]using this)
      ·rw[hn]at this;exact .inr ⟨x,by simpa only[RepV,RepC,RepD]using this⟩)]
     simp)]
    rw[<-c2];refine next _ _ ?_;rw[hv,hwr];exact SL r hd
end
end Go.Abs
namespace Go.Abs
inductive MC where
|skip
|reg (os:List MO)
|regd (bef:List Nat) (os:List MO)
|seq (a b:MC)
|cond (x:MX) (a b:MC)
|block (id:Nat) (b:MC)
|loop (b:MC)
|exit (id:Nat)
|ret
|fzq (a:MC)
|owq (a:MC)
def kC(P:Program)(N:Nat):MC->Code->Bool
|.skip,.skip=>true
|.reg os,.region _ ops d=> !d&&si P N ops os ops.toList
|.regd bef os,.region _ ops d=>d&&si P N ops os ops.toList&&LZ ops bef&&L6 ops bef
|.seq a b,.seq a' b'=>kC P N a a'&&kC P N b b'
|.cond x a b,.cond o a' b'=>iI x o&&kC P N a a'&&kC P N b b'
|.block i b,.block i' b'=>i==i'&&kC P N b b'
|.loop b,.loop b'=>kC P N b b'
|.exit i,.exit i'=>i==i'
|.ret,.ret=>true
|.fzq a,c=>kC P N a c
|.owq a,c=>kC P N a c
|_,_=>false
def AW(P:Program)(c:Ctx)(mc:MC)(Q:Exit->St->Prop)(S:St):Prop:=
∀code:Code,kC P c.N mc code=true->∀(a:Act) (w:World),qV P c S.get S.m a w->code.wp P (λe a' w'=>∃S':St,qV P c S'.get S'.m a' w'/\Q e S') a w
def yU(K:St->Prop)(Q:Exit->St->Prop):Exit->St->Prop
|.normal,S=>K S
|e,S=>Q e S
def Cg(id:Nat)(Q:Exit->St->Prop):Exit->St->Prop
|.exit i,S=>if i=id then Q .normal S else Q (.exit i) S
|e,S=>Q e S
section
variable {P:Program} {c:Ctx} {Q:Exit->St->Prop} {S:St}
theorem AW.mono{mc:MC}{Q':Exit->St->Prop}(h:AW P c mc Q S)(hq:∀e S,Q e S->Q' e S):AW P c mc Q' S:=λcode hc a w r=>
 wp_mono (h code hc a w r) λe a' w' ⟨S',r',q⟩=>⟨S',r',hq e S' q⟩
theorem AW.skip(h:Q .normal S):AW P c .skip Q S:=by
 intro code hc a w r;cases code<;>simp[kC]at hc;exact wp_skip ⟨S,r,h⟩
theorem AW.exit{id:Nat}(h:Q (.exit id) S):AW P c (.exit id) Q S:=by
 intro code hc a w r;cases code<;>simp[kC]at hc;subst hc;exact wp_exit ⟨S,r,h⟩
theorem AW.ret(h:Q .ret S):AW P c .ret Q S:=by
 intro code hc a w r;cases code<;>simp[kC]at hc;exact wp_ret ⟨S,r,h⟩
theorem AW.seq{x y:MC}(h:AW P c x (yU (AW P c y Q) Q) S):AW P c (.seq x y) Q S:=by
 intro code hc a w r;cases code with
 |seq x' y'=>
  simp only[kC,aG]at hc;refine wp_seq (wp_mono (h x' hc.1 a w r) λe a' w' ⟨S',r',q⟩=>?_);cases e with
  |normal=>exact q y' hc.2 a' w' r'
  |_=>exact⟨S',r',q⟩
 |_=>simp[kC]at hc
theorem AW.cond{x:MX}{a b:MC}{t:Bool}(e:X S.get x=.c (.d (.bool t)))(h1:t=true->AW P c a Q S)(h2:t=false->AW P c b Q S):AW P c (.cond x a b) Q S:=by
 intro code hc ac w r;cases code with
 |cond o a' b'=>
  simp only[kC,aG]at hc;obtain⟨ph,ρ,H,S0,e0,hg⟩:=r.ex;have r1:=jf hc.1.1 (ph:=ph) (ρ:=ρ) (get:=S.get) (a:=ac) λk _=>hg k;rw[e]at r1;simp only[RepV,RepC,RepD]at r1;exact wp_cond_split r1 (λht=>h1 ht a' hc.1.2 ac w r) (λht=>h2 ht b' hc.2 ac w r)
 |_=>simp[kC]at hc
theorem AW.condU{x:MX}{a b:MC}{q:Value->Prop}(e:X S.get x=.c (.op q))(hq:∀v,q v->Dw v)(h1:AW P c a Q S)(h2:AW P c b Q S):AW P c (.cond x a b) Q S:=by
 intro code hc ac w r;cases code with
 |cond o a' b'=>
  simp only[kC,aG]at hc;obtain⟨ph,ρ,H,S0,e0,hg⟩:=r.ex;have r1:=jf hc.1.1 (ph:=ph) (ρ:=ρ) (get:=S.get) (a:=ac) λk _=>hg k;rw[e]at r1;simp only[RepV,RepC]at r1;obtain⟨t,r1⟩:=hq _ r1;exact wp_cond_split r1 (λht=>h1 a' hc.1.2 ac w r) (λht=>h2 b' hc.2 ac w r)
 |_=>simp[kC]at hc
theorem AW.block{id:Nat}{b:MC}(h:AW P c b (Cg id Q) S):AW P c (.block id b) Q S:=by
 intro code hc a w r;cases code with
 | block id' b'=>
  simp only[kC,aG,aY]at hc;obtain⟨h1,h2⟩:=hc;subst h1;refine wp_block (wp_mono (h b' h2 a w r) λe a' w' ⟨S',r',q⟩=>?_);cases e with
  |exit i=>
   simp only[Cg]at q;simp only[Exit.inBlock];split
   ·rename_i hh;rw[aC hh]at q;exact⟨S',r',q⟩
   ·rename_i hh;rw[aB hh]at q;exact⟨S',r',q⟩
  |_=>exact⟨S',r',q⟩
 |_=>simp[kC]at hc
theorem AW.reg{os:List MO}(h:qf P os S (λS'=>Q .normal S')):AW P c (.reg os) Q S:=by
 intro code hc a w r;cases code with
 |region id ops d=>
  simp only[kC,aG,bD]at hc;obtain⟨h1,h2⟩:=hc;subst h1;refine wp_region ?_;have hl:=Lg h2;have:=LY (Q:=λe a' w'=>∃S':St,qV P c S'.get S'.m a' w'/\Q e S') (K:=λS'=>Q .normal S') (λS a w r k=>⟨S,r,k⟩) (i:=0) h2 (λj o hj=>by simpa using hj) h r;rw[dI];simpa using this
 |_=>simp[kC]at hc
theorem AW.regd{bef:List Nat}{os:List MO}(hm:P.follows .mixedOrders=true)(h:nU P os S [] (λS' fps=>FC bef fps=true/\Q .normal S')):AW P c (.regd bef os) Q S:=by
 intro code hc a w r;cases code with
 | region id ops d=>
  simp only[kC,aG]at hc;obtain⟨⟨⟨h1,h2⟩,h3⟩,h4⟩:=hc;subst h1;obtain⟨es,S',t1,t2,t3,t4⟩:=SS h2 h;simp only[List.reverse_nil,List.nil_append]at t4;refine wp_region_any hm ?_;have none:∀{β:Type} (l:List (List (Nat × β))) (i:Nat) (f:Nat->β),iX (lu (Array.replicate ops.size false)) i f l=f:=by
   intro β l
   induction l with
   |nil=>intro i f;rfl
   | cons x l ih=>
    intro i f;have:lu (Array.replicate ops.size false) i=false:=by
     unfold lu;simp only[aZ,dJ];split<;>rfl
    simp only[iX,this];exact ih _ _
  refine zlx h2 t1 h3 h4 t4.1 (λa w r=>⟨S',by rw[t2,t3];exact r,t4.2⟩) ops.size _ a _ (by simp) ?_ (λj i hj _ _=>?_) ?_
  ·have:cnt (Array.replicate ops.size false)=0:=by
    unfold cnt;simp
   omega
  ·unfold lu at hj;simp only[aZ,dJ]at hj;split at hj<;>simp at hj
  ·rw[none,none];obtain⟨ph,ρ,H,S0,e0,hg⟩:=r.ex;exact⟨r.gnd,r.defers,r.size,ph,ρ,H,S0,⟨e0.1,e0.2.1,e0.2.2⟩,hg⟩
 |_=>simp[kC]at hc
def hd(t:List (Nat × AV))(bs:List Blk):St:=⟨t,hpOf bs,bs.length⟩
def yV(S:St)(l:List Nat):List (Nat × AV)->Prop
|[]=>True
|(k,v)::t=>(S.get k=v.ren (jJ l)/\v.lt l.length=true)/\yV S l t
def vN(S:St)(l:List Nat):List Nat->List Blk->Prop
|[],[]=>True
|j::js,b::bs=>(S.m j=b.ren (jJ l)/\b.lt l.length=true)/\vN S l js bs
|_,_=>False
def iM(l:List Nat)(S:St)(t:List (Nat × AV))(bs:List Blk):Prop:=l.Nodup/\yV S l t/\vN S l l bs
theorem SY{S:St}{l:List Nat}:∀{t:List (Nat × AV)},yV S l t->∀k,look t k=.c (.d .any)\/(S.get k=(look t k).ren (jJ l)/\(look t k).lt l.length=true)
|[],_,k=>.inl rfl
|(j,v)::t,h,k=>by
 simp only[yV]at h;simp only[look];split
 ·rename_i e;subst e;exact .inr h.1
 ·exact SY h.2 k
theorem S9{S:St}{l:List Nat}:∀{js:List Nat} {bs:List Blk},vN S l js bs->js.length=bs.length/\∀i,i<js.length->S.m (js.getD i 0)=(bs.getD i .non).ren (jJ l)/\(bs.getD i .non).lt l.length=true
|[],[],_=>⟨rfl,λi hi=>by simp at hi⟩
|[],_::_,h=>by simp[vN]at h
|_::_,[],h=>by simp[vN]at h
|j::js,b::bs,h=>by
 simp only[vN]at h;obtain⟨h1,h2⟩:=S9 h.2;refine⟨by simp[h1],λi hi=>?_⟩;cases i with
 |zero=>simpa using h.1
 |succ i=>simpa using h2 i (by simpa using hi)
def Ctx.pure(_:Ctx):Prop:=True
theorem qV.view(hp:c.pure){l:List Nat}{S:St}{t:List (Nat × AV)}{bs:List Blk}{a:Act}{w:World}(hm:iM l S t bs)(r:qV P c S.get S.m a w):qV P c (hd t bs).get (hd t bs).m a w:=by
 obtain⟨hnd,ht,hb⟩:=hm;obtain⟨hlen,hb⟩:=S9 hb;obtain⟨ph,ρ,H,S0,e0,hg⟩:=r.ex;have at_:∀b,b<l.length->S.m (jJ l b)=(hpOf bs b).ren (jJ l)/\(hpOf bs b).lt l.length=true:=λb hbl=>hb b hbl;have inj:∀b c,b<l.length->c<l.length->jJ l b=jJ l c->b=c:=by
  intro b c h1 h2 e;unfold jJ at e;rw[aH,aH,aA h1,aA h2]at e;simp only[Option.getD_some]at e;exact(List.getElem?_inj h1 hnd).1 (by rw[aA h1,aA h2,e])
 have beyond:∀b,¬b<l.length->hpOf bs b=.non:=by
  intro b hb';unfold hpOf;rw[aH,aS (by omega)];rfl
 have rs:∀{b:Nat} {p:Nat × Nat},qF (jJ l) l.length ρ b=some p->b<l.length/\ρ (jJ l b)=some p:=by
  intro b p h;unfold qF at h;split at h
  ·exact⟨by assumption,h⟩
  ·cases h
 refine⟨r.gnd,r.defers,r.size,ph,qF (jJ l) l.length ρ,⟨H.pers,?_,?_,?_,?_⟩,⟨S0.hle,S0.hlow,S0.size,S0.frame,?_⟩,e0,λk=>?_⟩
 ·intro b;show hpOf bs b=.non↔_;unfold qF;by_cases hbl:b<l.length
  ·rw[aC hbl,<-H.dom,(at_ b hbl).1];cases hpOf bs b<;>simp[Blk.ren]
  ·rw[aB hbl];simp[beyond b hbl]
 ·intro b p hp';obtain⟨h1,h2⟩:=rs hp';have:=H.own _ p h2;rw[(at_ b h1).1]at this;exact zaI.ren (at_ b h1).2 this
 ·intro b c' p q h1 h2 hr hs e;obtain⟨g1,g2⟩:=rs h1;obtain⟨g3,g4⟩:=rs h2;refine inj b c' g1 g3 (H.inj _ _ p q g2 g4 ?_ ?_ e)
  ·rw[(at_ b g1).1];exact Real.ren.2 hr
  ·rw[(at_ c' g3).1];exact Real.ren.2 hs
 ·intro b p h1 hr;obtain⟨g1,g2⟩:=rs h1;exact H.sep _ p g2 (by rw[(at_ b g1).1];exact Real.ren.2 hr)
 ·intro b p h1 hr;obtain⟨g1,g2⟩:=rs h1;exact S0.own _ p g2 (by rw[(at_ b g1).1];exact Real.ren.2 hr)
 ·have rk:=hg k;show RepV ph (qF (jJ l) l.length ρ) (look t k) _;rcases SY ht k with h1|⟨h1,h2⟩
  ·rw[h1];simp[RepV,RepC,RepD]
  ·rw[h1]at rk;exact RepV.ren _ _ h2 rk
theorem AW.loop{Y:Type}(hp:c.pure){body:MC}(I:Y->Prop)(t:Y->List (Nat × AV))(bs:Y->List Blk)(μ:Y->Nat){x0:Y}{l0:List Nat}(hI:I x0)(h0:iM l0 S (t x0) (bs x0))
  (round:∀x,I x->AW P c body (yU (λS'=>∃x' l,I x'/\iM l S' (t x') (bs x')/\μ x'<μ x) Q) (hd (t x) (bs x))):AW P c (.loop body) Q S:=by
 intro code hc a w r;cases code with
 | loop b=>
  simp only[kC]at hc;intro fr k cs
  have key:∀n:Nat,∀x,μ x=n->I x->∀a w,qV P c (hd (t x) (bs x)).get (hd (t x) (bs x)).m a w->
    ∃e a' w',(∃S':St,qV P c S'.get S'.m a' w'/\Q e S')/\Arrives P (lone (fr.at a (.code b::.inLoop b::k)) cs w) fr k cs e a' w':=by
   intro n
   induction n using Nat.strongRecOn with
   | _ n ih=>
    intro x hn hx a w r;obtain⟨e,a₁,w₁,⟨S',r',q⟩,harr⟩:=round x hx b hc a w r fr (.inLoop b::k) cs;cases e with
    |normal=>
     obtain⟨x',l,hx',hm,hlt⟩:=q;obtain⟨e₂,a₂,w₂,hq₂,harr₂⟩:=ih (μ x') (hn▸hlt) x' rfl hx' a₁ w₁ (qV.view hp hm r');exact⟨e₂,a₂,w₂,hq₂,.of_steps (Steps.trans harr (.one step_inLoop)) harr₂⟩
    |exit id=>exact⟨_,a₁,w₁,⟨S',r',q⟩,.pass (x:=.inLoop b) rfl (λ_ _=>.inl (by simp)) harr⟩
    |goto l=>exact⟨_,a₁,w₁,⟨S',r',q⟩,.pass (x:=.inLoop b) rfl (λ_ _=>.inl (by simp)) harr⟩
    |ret=>exact⟨_,a₁,w₁,⟨S',r',q⟩,.pass (x:=.inLoop b) rfl (λ_ _=>.inl (by simp)) harr⟩
    |panic ch=>exact⟨_,a₁,w₁,⟨S',r',q⟩,.pass (x:=.inLoop b) rfl (λ_ _=>.inl (by simp)) harr⟩
    |outgrown=>exact⟨_,a₁,w₁,⟨S',r',q⟩,.pass (x:=.inLoop b) rfl (λ_ _=>.inl (by simp)) harr⟩
  obtain⟨e,a',w',hq,harr⟩:=key _ x0 rfl hI a w (qV.view hp h0 r);exact⟨e,a',w',hq,.of_steps (.one step_loop) harr⟩
 |_=>simp[kC]at hc
end
end Go.Abs
