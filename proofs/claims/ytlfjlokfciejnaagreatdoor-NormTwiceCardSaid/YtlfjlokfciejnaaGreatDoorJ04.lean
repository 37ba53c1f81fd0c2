/- Texts of ours, joined and written short by a program of ours. -/
import Derived.Test.YtlfjlokfciejnaaGreatDoorJ03
import Derived.KernelRfl
set_option maxRecDepth 20000
set_option maxHeartbeats 4000000
set_option linter.all false
namespace Go.Abs
section
variable {P:Program} {get:Nat->AV} {m:Hp} {n:Nat}
def zvr{ph:PH}{ρ:RM}{a:Act}:∀{xs:List MX} {os:List Operand} {cs:List AC},zei xs os=true->(∀k,Operand.tmp k∈os->RepV ph ρ (get k) (a.tmps.getD k undef))->zi0 get xs=some cs->
  zae ph ρ cs (os.map a.eval)/\(os.map a.eval).length=cs.length
 |[],[],cs,_,_,e=>by simp only[zi0]at e;cases e;simp[zae]
 |[],_::_,_,h,_,_=>by simp[zei]at h
 |_::_,[],_,h,_,_=>by simp[zei]at h
 | x::xs,o::os,cs,h,hg,e=>by
  simp only[zei,aD]at h
  simp only[zi0]at e
  split at e
  ·rename_i c r h1 h2
   split at e
   ·rename_i h3
    cases e
    have r1:=zaq h.1 (ph:=ph) (ρ:=ρ) (get:=get) (a:=a) fun k hk=>hg k (by simp[hk])
    rw[h1]at r1
    simp only[RepV]at r1
    obtain⟨i1,i2⟩:=zvr h.2 (fun k hk=>hg k (by simp[hk])) h2
    simp only[List.map_cons,zae,List.length_cons]
    exact⟨⟨⟨AC.one_ok r1 h3,r1⟩,i1⟩,by rw[i2]⟩
   ·cases e
  ·cases e
def zvs{o:Oper}{fn:Fn}{f:FuncId}{first captured:Array Operand}{caps:List MX}(ho:o.op=.makeFunc fn first captured)(hc:zak P (.mkfn f caps) (.makeFunc fn first captured)=true){cs:List AC}(e:zi0 get caps=some cs):
  zao P o get m [] [] (.c (.fn (.func f) cs)):=by
 simp only[zak,aD]at hc
 obtain⟨⟨c0,c1⟩,c2⟩:=hc
 split at c0
 ·rename_i g
  simp only[aY]at c0
  subst c0
  refine zao.of_pure fun m' h1 ph ρ w a hr hg=>?_
  obtain⟨i1,i2⟩:=zvr (ph:=ph) (ρ:=ρ) (a:=a) c2 (fun k hk=>hg k (by rw[ho];simp only[Op.operands];simp at hk⊢;exact .inr hk)) e
  have hfirst:first=#[]:=by simpa using c1
  refine⟨.func (.func f) #[] (captured.map a.eval),?_,?_⟩
  ·unfold execOp;rw[ho]
   refine fF ?_ (fE _)
   show Runs P (Instr.makeFunc (.func f) (first.map a.eval) (captured.map a.eval)) w _ w
   rw[hfirst]
   unfold Instr.makeFunc
   simp only[List.map_toArray,List.map_nil]
   exact fE _
  ·simp only[RepV,RepC]
   refine⟨captured.toList.map a.eval,?_,i2,i1⟩
   congr 1
   apply bv;simp
 ·cases c0
def fn_D{ph:PH}{ρ:RM}{f:Fn}{ds:List D}{v:Value}(r:RepV ph ρ (.c (.fn f (ds.map .d))) v):RepV ph ρ (.c (.d (.fn f ds))) v:=by
 simp only[RepV,RepC,RepD]at r⊢
 obtain⟨vs,e1,e2,e3⟩:=r
 exact⟨vs,e1,by simpa using e2,zae.to_D e3⟩
def zao.weaken{o:Oper}{rd:List Nat}{wr:List (Nat × Blk)}{v v':AV}(h:zao P o get m rd wr v)(hv:∀{ph:PH} {ρ:RM} {x:Value},RepV ph ρ v x->RepV ph ρ v' x):zao P o get m rd wr v':=
 fun m' h1 h2 ph ρ w a hr hG hg next Q hn=>h m' h1 h2 ph ρ w a hr hG hg next Q fun h' ρ' w' vC s k e p=>hn h' ρ' w' vC s k e (hv p)
def zsF{o:Oper}{f:FuncId}{ds:List DV}{v:DV}(hp:PCall P f ds v)(H:∀(ph:PH) (ρ:RM) (w:World) (a:Act),(∀k,Operand.tmp k∈o.op.operands->RepV ph ρ (get k) (a.tmps.getD k undef))->
  ∃args:List Value,zax ph ds args/\Runs P (execOp a.eval o) w (.enter f args.toArray) w):zao P o get m [] [] v.av:=by
 intro m' h1 h2 ph ρ w a hr hG hg next Q hn
 obtain⟨args,ra,hrun⟩:=H ph ρ w a hg
 obtain⟨_,hp⟩:=hp
 unfold Oper.wp
 rw[show(execOp a.eval o).run P w=.ok (.enter f args.toArray) w from hrun]
 rw[Oper.upon_enter]
 refine(hp ph w args hr.pers hG ra).mono fun e w' hh=>?_
 obtain⟨vC,h',e1,e2,e3,e4,e5,e6,e7,e8⟩:=hh
 subst e1
 have K:HRel h' ρ m' w'.heap:=hr.grow e2 e4 (fun B hB _=>⟨e6 B hB,e3 B hB⟩)
 have S:Step ph ρ m' w.heap h' ρ m' w'.heap:=⟨e2,fun B hB _=>e3 B hB,fU ρ,e5,fun B hB _=>e6 B hB,fun b p hp hr=>.inr ⟨b,p,hp,hr,rfl⟩⟩
 exact hn h' ρ w' vC S K e7 (zaP.av e8)
def zfk{f:FuncId}{args:Array Value}{w:World}(h:callee P f=true):Runs P (callFunc f args) w (.enter f args) w:=by
 unfold callee at h
 unfold callFunc
 refine Runs.program.bind ?_
 split at h
 ·rename_i fn hfn
  simp only[aD,bne_iff_ne,ne_eq]at h
  rw[hfn]
  dsimp only
  rw[aB (by simpa using h.1),aB (by
   have:=h.2
   cases hb:fn.body<;>simp_all)]
  exact fE _
 ·cases h
def zax.length{h:PH}:∀{xs:List DV} {vs:List Value},zax h xs vs->vs.length=xs.length
 |[],vs,r=>by simp[zax]at r;simp[r]
 |_::_,[],r=>by simp[zax]at r
 |x::xs,v::vs,r=>by simp only[zax]at r;simp[zax.length r.2]
def zax.append{h:PH}:∀{xs:List DV} {vs:List Value} {ys:List DV} {us:List Value},zax h xs vs->zax h ys us->zax h (xs++ys) (vs++us)
 |[],vs,ys,us,r,r'=>by simp[zax]at r;subst r;simpa using r'
 |_::_,[],_,_,r,_=>by simp[zax]at r
 |x::xs,v::vs,ys,us,r,r'=>by
  simp only[zax,List.cons_append]at r⊢
  exact⟨r.1,zax.append r.2 r'⟩
def RepL.ones{h:PH}:∀{ds:List D} {vs:List Value},RepL h ds vs->vs.length=ds.length->zax h (ds.map .one) vs
 |[],[],_,_=>by simp[zax]
 |[],_::_,_,e=>by simp at e
 |_::_,[],r,_=>by simp[RepL]at r
 |d::ds,v::vs,r,e=>by
  simp only[RepL]at r
  simp only[List.map_cons,zax,zaP]
  exact⟨r.1.2,RepL.ones r.2 (by simpa using e)⟩
def zDf{o:Oper}{c:Call}{f:FuncId}{xs:List MX}(ho:o.op=.call c)(hc:zak P (.call f xs) (.call c)=true){ds:List DV}(e:zfO (xs.map (X get))=some ds){v:DV}(hp:PCall P f ds v):zao P o get m [] [] v.av:=by
 simp only[zak,aD]at hc
 obtain⟨c0,c1⟩:=hc
 split at c0
 ·rename_i g hg
  simp only[aY]at c0
  subst c0
  refine zsF hp fun ph ρ w a hr=>?_
  have rv:=ziy c1 (ph:=ph) (ρ:=ρ) (get:=get) (a:=a) fun k hk=>hr k (by rw[ho];simp[Op.operands,Call.operands,hg];simpa using hk)
  refine⟨_,zoE e rv,?_⟩
  unfold execOp;rw[ho]
  show Runs P (do let d<-resolve a.eval c o.type;invoke d.target d.args) w _ w
  unfold resolve
  rw[hg]
  refine(fE _).bind ?_
  have e1:(c.args.toList.map a.eval).toArray=c.args.map a.eval:=by apply bv;simp
  rw[e1]
  simp only[invoke,dZ,Array.append_empty]
  have:=zfk (w:=w) (args:=c.args.map a.eval) hp.1
  simpa using this
 ·cases c0
def zA8{o:Oper}{c:Call}{x:MX}{xs:List MX}(ho:o.op=.call c)(hc:zak P (.calld x xs) (.call c)=true){f:FuncId}{caps:List D}(ex:X get x=.c (.d (.fn (.func f) caps))){ds:List DV}
  (e:zfO (xs.map (X get))=some ds) {v:DV} (hp:PCall P f (ds++caps.map .one) v):zao P o get m [] [] v.av:=by
 simp only[zak,aD]at hc
 obtain⟨c0,c1⟩:=hc
 split at c0
 ·rename_i ox hg
  refine zsF hp fun ph ρ w a hr=>?_
  have rv:=ziy c1 (ph:=ph) (ρ:=ρ) (get:=get) (a:=a) fun k hk=>hr k (by rw[ho];simp[Op.operands,Call.operands,hg];exact .inr (by simpa using hk))
  have r1:=zaq c0 (ph:=ph) (ρ:=ρ) (get:=get) (a:=a) fun k hk=>hr k (by rw[ho];simp[Op.operands,Call.operands,hg,hk])
  rw[ex]at r1
  simp only[RepV,RepC,RepD]at r1
  obtain⟨vs,q1,q2,q3⟩:=r1
  refine⟨c.args.toList.map a.eval++vs,(zoE e rv).append (RepL.ones q3 q2),?_⟩
  unfold execOp;rw[ho]
  show Runs P (do let d<-resolve a.eval c o.type;invoke d.target d.args) w _ w
  unfold resolve
  rw[hg]
  simp only[q1,Deferred.ofValue]
  refine(fE _).bind ?_
  have e1:(c.args.toList.map a.eval++vs).toArray=c.args.map a.eval++vs.toArray:=by apply bv;simp
  rw[e1]
  simp only[invoke,dZ]
  exact zfk (w:=w) (args:=c.args.map a.eval++vs.toArray) hp.1
 ·cases c0
theorem zA9:Extern.allGenericRows.lookup zjB=none:=by kernel_rfl
theorem zBa:Extern.allTypedRows.lookup zjB=none:=by kernel_rfl
theorem zBb:Extern.allRows.lookup zjB=some Extern.BytealgCompare.compare:=by kernel_rfl
def zDg{fn:Func}(h:fn.name=zjB):Extern.find fn=some Extern.BytealgCompare.compare:=by
 unfold Extern.find
 rw[h]
 dsimp only
 rw[zA9,zBa,zBb]
 rfl
def zhg:∀(a b:List UInt8), -1<=Lib.compareBytes a b/\Lib.compareBytes a b<=1
 |[],[]=>by simp[Lib.compareBytes]
 |[],_::_=>by simp[Lib.compareBytes]
 |_::_,[]=>by simp[Lib.compareBytes]
 | a::as,b::bs=>by
  unfold Lib.compareBytes
  have:=zhg as bs
  split
  ·omega
  ·split
   ·omega
   ·exact this
def zDh{o:Oper}{c:Call}{f:FuncId}{x y:MX}(ho:o.op=.call c)(hc:zak P (.cmpS f x y) (.call c)=true){s t:fC}(ex:X get x=.c (.d (.str s)))(ey:X get y=.c (.d (.str t))):
  zao P o get m [] [] (.c (.d (.int .i64 (Lib.compareBytes s.data.toList t.data.toList)))):=by
 simp only[zak]at hc
 split at hc
 ·rename_i g ox oy hg ha
  simp only[aD,aY]at hc
  obtain⟨⟨⟨c0,c1⟩,c2⟩,c3⟩:=hc
  subst c0
  have hargs:c.args=#[ox,oy]:=by rw[<-au (xs:=c.args),ha]
  split at c1
  ·rename_i fn hfn
   simp only[aD,aY]at c1
   refine zao.of_pure fun m' h1 ph ρ w a hr hgg=>?_
   have r1:=zaq c2 (ph:=ph) (ρ:=ρ) (get:=get) (a:=a) fun k hk=>hgg k (by rw[ho];simp[Op.operands,Call.operands,hg,hargs,hk])
   have r2:=zaq c3 (ph:=ph) (ρ:=ρ) (get:=get) (a:=a) fun k hk=>hgg k (by rw[ho];simp[Op.operands,Call.operands,hg,hargs,hk])
   rw[ex]at r1
   rw[ey]at r2
   simp only[RepV,RepC,RepD]at r1 r2
   refine⟨.int .i64 (Lib.compareBytes s.data.toList t.data.toList),?_,?_⟩
   ·unfold execOp;rw[ho]
    show Runs P (do let d<-resolve a.eval c o.type;invoke d.target d.args) w _ w
    unfold resolve
    rw[hg,hargs]
    refine(fE _).bind ?_
    simp only[invoke,List.map_toArray,List.map_cons,List.map_nil,Array.append_empty]
    rw[r1.1,r2.1]
    obtain⟨⟨d1,d2⟩,d3⟩:=c1
    have hn:Extern.findNext fn=none:=by simpa using d3
    have:=run_callFunc_extern (w:=w) hfn (by rw[d1];decide) d2 hn (zDg d1) #[.string s,.string t]
    rw[Lib.run_compareString]at this
    exact this
   ·simp only[RepV,RepC]
    unfold RepD
    have:=zhg s.data.toList t.data.toList
    refine⟨rfl,?_,?_⟩
    ·simp only[IntKind.min,IntKind.signed,IntKind.bits];simp;omega
    ·simp only[IntKind.max,IntKind.signed,IntKind.bits];simp;omega
  ·cases c1
 ·cases hc
def zBc{op:BinOp}{T:TypeId}{k:IntKind}{i j:Int}{x y:MX}{d:D}(ex:X get x=.c (.d (.int k i)))(ey:X get y=.c (.d (.int k j)))(H:∀(ph:PH) (w:World),k.min<=i/\i<=k.max->k.min<=j/\j<=k.max->∃v,Runs P (binOp op T (.int k i) (.int k j)) w v w/\RepD ph d v)
  (ph:PH) (ρ:RM) (a b:Value) (w:World) (ra:RepV ph ρ (X get x) a) (rb:RepV ph ρ (X get y) b):¬(a=.nilIface/\b=.nilIface)/\(∀c d,¬(a=.agg c/\b=.agg d))/\∃v,Runs P (binOp op T a b) w v w/\RepD ph d v:=by
 rw[ex]at ra
 rw[ey]at rb
 simp only[RepV,RepC,RepD]at ra rb
 rw[ra.1,rb.1]
 exact⟨(by rintro⟨h,_⟩;cases h),(by rintro c d ⟨h,_⟩;cases h),H ph w ra.2 rb.2⟩
def zD5{K:AV->List Nat->List (Nat × Blk)->Nat->Prop}{mo:MOp}{o:Oper}(hc:zak P mo o.op=true)(hK:ev P get m n K mo):∃v rd wr n',zao P o get m rd wr v/\K v rd wr n':=by
 cases mo with
 |mv x=>
  cases ho:o.op<;>rw[ho]at hc<;>first|(simp[zak]at hc;done)|skip
  ·exact⟨_,_,_,_,zBd (.inl ho) (by simpa[zak]using hc),hK⟩
  ·exact⟨_,_,_,_,zBd (.inr ho) (by simpa[zak]using hc),hK⟩
 | pick c a b=>
  cases ho:o.op<;>rw[ho]at hc<;>first|(simp[zak]at hc;done)|skip
  simp only[zak,aD]at hc
  simp only[ev]at hK
  split at hK
  ·rename_i t et
   refine⟨_,[],[],n,zDi ho hc.1.1 hc.1.2 hc.2 et,?_⟩
   cases t
   ·exact hK.2 rfl
   ·exact hK.1 rfl
  ·exact hK.elim
 | binI op x y=>
  cases ho:o.op<;>rw[ho]at hc<;>first|(simp[zak]at hc;done)|skip
  simp only[zak,aD,aI]at hc
  obtain⟨⟨c0,c1⟩,c2⟩:=hc
  subst c0
  simp only[ev]at hK
  split at hK
  ·rename_i k i k' j ex ey
   obtain⟨k1,hK⟩:=hK
   subst k1
   split at hK
   ·rename_i d hd
    exact⟨_,_,_,_,zkf ho c1 c2 (zBc ex ey fun ph w _ _=>zFy hd _ ph),hK⟩
   ·exact hK.elim
  ·exact hK.elim
 | divI op x y=>
  cases ho:o.op<;>rw[ho]at hc<;>first|(simp[zak]at hc;done)|skip
  simp only[zak,aD,aI,cu]at hc
  obtain⟨⟨⟨c0,c3⟩,c1⟩,c2⟩:=hc
  subst c0
  simp only[ev]at hK
  split at hK
  ·rename_i k i k' j ex ey
   obtain⟨k1,k2,hK⟩:=hK
   subst k1
   refine⟨_,[],[],n,zkf ho c1 c2 (zBc ex ey fun ph w h1 h2=>zEs c3 k2 h1 h2 _ ph),?_⟩
   rcases c3 with rfl|rfl
   ·rw[aC rfl];exact hK
   ·rw[aB (by decide)];exact hK
  ·exact hK.elim
 | binS op x y=>
  cases ho:o.op<;>rw[ho]at hc<;>first|(simp[zak]at hc;done)|skip
  simp only[zak,aD,aI]at hc
  obtain⟨⟨c0,c1⟩,c2⟩:=hc
  subst c0
  simp only[ev]at hK
  split at hK
  ·rename_i i j ex ey
   split at hK
   ·rename_i d hd
    refine⟨_,_,_,_,zkf ho c1 c2 (fun ph ρ a b w ra rb=>?_),hK⟩
    rw[ex]at ra
    rw[ey]at rb
    simp only[RepV,RepC,RepD]at ra rb
    rw[ra.1,rb.1]
    exact⟨(by rintro⟨h,_⟩;cases h),(by rintro c d ⟨h,_⟩;cases h),zFz hd _ ph⟩
   ·exact hK.elim
  ·exact hK.elim
 | cat x y=>
  cases ho:o.op<;>rw[ho]at hc<;>first|(simp[zak]at hc;done)|skip
  simp only[zak,aD,aI]at hc
  obtain⟨⟨c0,c1⟩,c2⟩:=hc
  subst c0
  simp only[ev]at hK
  split at hK
  ·rename_i i j ex ey
   obtain⟨k1,hK⟩:=hK
   refine⟨_,_,_,_,zkf ho c1 c2 (fun ph ρ a b w ra rb=>?_),hK⟩
   rw[ex]at ra
   rw[ey]at rb
   simp only[RepV,RepC,RepD]at ra rb
   rw[ra.1,rb.1]
   exact⟨(by rintro⟨h,_⟩;cases h),(by rintro c d ⟨h,_⟩;cases h),zc0 k1 _ ph⟩
  ·exact hK.elim
 | binB op x y=>
  cases ho:o.op<;>rw[ho]at hc<;>first|(simp[zak]at hc;done)|skip
  simp only[zak,aD,aI]at hc
  obtain⟨⟨⟨c0,c3⟩,c1⟩,c2⟩:=hc
  subst c0
  split at c3
  ·rename_i hT
   simp only[ev]at hK
   split at hK
   ·rename_i i j ex ey
    split at hK
    ·rename_i d hd
     refine⟨_,_,_,_,zkf ho c1 c2 (fun ph ρ a b w ra rb=>?_),hK⟩
     rw[ex]at ra
     rw[ey]at rb
     simp only[RepV,RepC,RepD]at ra rb
     rw[ra,rb]
     exact⟨(by rintro⟨h,_⟩;cases h),(by rintro c d ⟨h,_⟩;cases h),zFA hd hT ph⟩
    ·exact hK.elim
   ·exact hK.elim
  ·cases c3
 | not x=>
  cases ho:o.op<;>rw[ho]at hc<;>first|(simp[zak]at hc;done)|skip
  simp only[zak,aD,aI]at hc
  obtain⟨c0,c1⟩:=hc
  subst c0
  simp only[ev]at hK
  split at hK
  ·rename_i i ex
   refine⟨_,_,_,_,zBe ho c1 (fun ph ρ a w ra=>?_),hK⟩
   rw[ex]at ra
   simp only[RepV,RepC,RepD]at ra
   rw[ra]
   exact⟨_,fE _,rfl⟩
  ·exact hK.elim
 | neg x=>
  cases ho:o.op<;>rw[ho]at hc<;>first|(simp[zak]at hc;done)|skip
  simp only[zak,aD,aI]at hc
  obtain⟨c0,c1⟩:=hc
  subst c0
  simp only[ev]at hK
  split at hK
  ·rename_i k i ex
   refine⟨_,_,_,_,zBe ho c1 (fun ph ρ a w ra=>?_),hK⟩
   rw[ex]at ra
   simp only[RepV,RepC,RepD]at ra
   rw[ra.1]
   refine⟨_,fE _,?_⟩
   unfold RepD
   exact⟨rfl,zhH _ _⟩
  ·exact hK.elim
 | convI k x=>
  cases ho:o.op<;>rw[ho]at hc<;>first|(simp[zak]at hc;done)|skip
  rename_i S U ox
  simp only[zak,aD]at hc
  obtain⟨⟨c0,c1⟩,c2⟩:=hc
  split at c0
  ·rename_i k' hU
   simp only[aI]at c0
   subst c0
   split at c1
   ·rename_i d hS
    simp only[ev]at hK
    split at hK
    ·rename_i k' i ex
     refine⟨_,_,_,_,zao.of_pure fun m' h1 ph ρ w a hr hg=>?_,hK⟩
     have r1:=zaq c2 (ph:=ph) (ρ:=ρ) (get:=get) (a:=a) fun k hk=>hg k (by rw[ho];simp[Op.operands,hk])
     rw[ex]at r1
     simp only[RepV,RepC,RepD]at r1
     refine⟨.int k (k.wrap i),?_,?_⟩
     ·unfold execOp;rw[ho]
      refine fF ?_ (fE _)
      show Runs P (convert S U (a.eval ox)) w _ w
      rw[r1.1]
      exact Runs.convert_int hS hU
     ·simp only[RepV,RepC]
      unfold RepD
      exact⟨rfl,zhH _ _⟩
    ·exact hK.elim
   ·cases c1
  ·cases c0
 | boxP x=>
  cases ho:o.op<;>rw[ho]at hc<;>first|(simp[zak]at hc;done)|skip
  simp only[ev]at hK
  split at hK
  ·rename_i ds e
   exact⟨_,_,_,_,zFb ho (by simpa[zak]using hc) e,hK⟩
  ·exact hK.elim
 | boxM x=>
  cases ho:o.op<;>rw[ho]at hc<;>first|(simp[zak]at hc;done)|skip
  simp only[ev]at hK
  split at hK
  ·rename_i cs e
   exact⟨_,_,_,_,zDz ho (by simpa[zak]using hc) e hK.1,hK.2⟩
  ·exact hK.elim
 | alloc z=>
  cases ho:o.op<;>rw[ho]at hc<;>first|(simp[zak]at hc;done)|skip
  simp only[zak]at hc
  split at hc
  ·rename_i i hi
   simp only[aD]at hc
   simp only[ev]at hK
   exact⟨_,_,_,_,zBz ho hi hc.1 hc.2 hK.1,hK.2⟩
  ·cases hc
 | build z ps=>
  cases ho:o.op<;>rw[ho]at hc<;>first|(simp[zak]at hc;done)|skip
  simp only[ev]at hK
  split at hK
  ·rename_i cs e
   exact⟨_,_,_,_,zzV ho hc e,hK⟩
  ·exact hK.elim
 | buildSl s xs=>
  cases ho:o.op<;>rw[ho]at hc<;>first|(simp[zak]at hc;done)|skip
  simp only[ev]at hK
  split at hK
  ·rename_i es e
   exact⟨_,_,_,_,zw0 ho hc e,hK⟩
  ·exact hK.elim
 | buildSlM s xs=>
  cases ho:o.op<;>rw[ho]at hc<;>first|(simp[zak]at hc;done)|skip
  simp only[ev]at hK
  split at hK
  ·rename_i es e
   exact⟨_,_,_,_,zvZ ho (by simpa only[zak]using hc) e hK.1,hK.2⟩
  ·exact hK.elim
 |load ag sz x=>
  cases ho:o.op<;>rw[ho]at hc<;>first|(simp[zak]at hc;done)|skip
  simp only[zak,aD,aY]at hc
  obtain⟨v,rd,h1,h2⟩:=zDy (m:=m) (K:=fun v rd=>K v rd [] n) ho hc.1 hc.2 hK
  exact⟨v,rd,[],n,h1,h2⟩
 | store sz x y=>
  cases ho:o.op<;>rw[ho]at hc<;>first|(simp[zak]at hc;done)|skip
  simp only[zak,aD]at hc
  obtain⟨⟨c0,c1⟩,c2⟩:=hc
  split at c0
  ·rename_i i hi
   simp only[aD,aY,aI]at c0
   obtain⟨wr,h1,h2⟩:=zBA (m:=m) (K:=fun wr=>K (.c (.d .any)) [] wr n) ho hi c0.1 c0.2 c1 c2 hK
   exact⟨_,[],wr,n,h1,h2⟩
  ·cases c0
 |faddr off x=>
  cases ho:o.op<;>rw[ho]at hc<;>first|(simp[zak]at hc;done)|skip
  obtain⟨v,h1,h2⟩:=zBC (m:=m) (K:=fun v=>K v [] [] n) ho hc hK
  exact⟨v,[],[],n,h1,h2⟩
 | field ag off sz x=>
  cases ho:o.op<;>rw[ho]at hc<;>first|(simp[zak]at hc;done)|skip
  simp only[ev]at hK
  split at hK
  ·rename_i cs ex
   obtain⟨v,h1,h2⟩:=zBD (m:=m) (K:=fun v=>K v [] [] n) ho hc ex hK
   exact⟨v,[],[],n,h1,h2⟩
  ·exact hK.elim
 |iaddrS s x i=>
  cases ho:o.op<;>rw[ho]at hc<;>first|(simp[zak]at hc;done)|skip
  obtain⟨v,h1,h2⟩:=zzv (m:=m) (K:=fun v=>K v [] [] n) ho hc hK
  exact⟨v,[],[],n,h1,h2⟩
 |iaddrA len s x i=>
  cases ho:o.op<;>rw[ho]at hc<;>first|(simp[zak]at hc;done)|skip
  obtain⟨v,h1,h2⟩:=zzw (m:=m) (K:=fun v=>K v [] [] n) ho hc hK
  exact⟨v,[],[],n,h1,h2⟩
 | idxA ag len s x i=>
  cases ho:o.op<;>rw[ho]at hc<;>first|(simp[zak]at hc;done)|skip
  simp only[ev]at hK
  split at hK
  ·rename_i cs k j ex ei
   obtain⟨v,h1,h2⟩:=zDB (m:=m) (K:=fun v=>K v [] [] n) ho hc ex ei hK.1 hK.2.1 hK.2.2
   exact⟨v,[],[],n,h1,h2⟩
  ·exact hK.elim
 | idxS x i=>
  cases ho:o.op<;>rw[ho]at hc<;>first|(simp[zak]at hc;done)|skip
  simp only[ev]at hK
  split at hK
  ·rename_i t k j ex ei
   obtain⟨k1,hK⟩:=hK
   split at hK
   ·rename_i b hb
    exact⟨_,_,_,_,zDC ho hc ex ei k1 hb,hK⟩
   ·exact hK.elim
  ·exact hK.elim
 |len x=>
  cases ho:o.op<;>rw[ho]at hc<;>first|(simp[zak]at hc;done)|skip
  obtain⟨v,rd,h1,h2⟩:=zEY (m:=m) (K:=fun v rd=>K v rd [] n) ho hc hK
  exact⟨v,rd,[],n,h1,h2⟩
 | lenS x=>
  cases ho:o.op<;>rw[ho]at hc<;>first|(simp[zak]at hc;done)|skip
  simp only[ev]at hK
  split at hK
  ·rename_i t ex
   exact⟨_,_,_,_,zDe ho hc ex,hK⟩
  ·exact hK.elim
 | nilck x=>
  cases ho:o.op<;>rw[ho]at hc<;>first|(simp[zak]at hc;done)|skip
  rename_i ox
  have hx:chkX x ox=true:=by simpa only[zak]using hc
  simp only[ev]at hK
  split at hK
  ·rename_i b q ex
   refine⟨_,_,_,_,zmV ho hx (fun {ph ρ v} r=>?_),by rw[ex];exact hK⟩
   rw[ex]at r;simp only[RepV,RepC]at r
   obtain⟨p,_,e⟩:=r;exact⟨_,e⟩
  ·rename_i s b i q ex
   refine⟨_,_,_,_,zmV ho hx (fun {ph ρ v} r=>?_),by rw[ex];exact hK⟩
   rw[ex]at r;simp only[RepV,RepC]at r
   obtain⟨p,_,e⟩:=r;exact⟨_,e⟩
  ·rename_i cs q ex
   refine⟨_,_,_,_,zmV ho hx (fun {ph ρ v} r=>?_),by rw[ex];exact hK⟩
   rw[ex]at r;simp only[RepV,RepC,RepD]at r
   obtain⟨B,p,e,_⟩:=r;exact⟨_,e⟩
  ·exact hK.elim
 | extract x i=>
  cases ho:o.op<;>rw[ho]at hc<;>first|(simp[zak]at hc;done)|skip
  simp only[zak,aD,aY]at hc
  obtain⟨c0,c1⟩:=hc
  subst c0
  simp only[ev]at hK
  split at hK
  ·rename_i vs ex
   split at hK
   ·rename_i v hv
    exact⟨_,_,_,_,zwP ho c1 ex hv,hK⟩
   ·exact hK.elim
  ·exact hK.elim
 |slice s x lo hi=>
  cases ho:o.op<;>rw[ho]at hc<;>first|(simp[zak]at hc;done)|skip
  obtain⟨v,h1,h2⟩:=zA6 (m:=m) (K:=fun v=>K v [] [] n) ho hc hK
  exact⟨v,[],[],n,h1,h2⟩
 | slice00 s x=>
  cases ho:o.op<;>rw[ho]at hc<;>first|(simp[zak]at hc;done)|skip
  simp only[ev]at hK
  split at hK
  ·rename_i fl s' es ex
   exact⟨_,_,_,_,zwQ ho hc ex,hK⟩
  ·exact hK.elim
 | sliceS x lo hi=>
  cases ho:o.op<;>rw[ho]at hc<;>first|(simp[zak]at hc;done)|skip
  simp only[ev]at hK
  split at hK
  ·rename_i t ex
   obtain⟨v,h1,h2⟩:=zy6 (m:=m) (K:=fun v=>K v [] [] n) ho hc ex hK
   exact⟨v,[],[],n,h1,h2⟩
  ·exact hK.elim
 | append s bytes x y=>
  cases ho:o.op<;>rw[ho]at hc<;>first|(simp[zak]at hc;done)|skip
  simp only[zak]at hc
  split at hc
  ·rename_i ox oy T T' hb ha hta
   simp only[aD,bE]at hc
   obtain⟨⟨⟨⟨c0,c1⟩,c2⟩,c3⟩,c4⟩:=hc
   split at c4
   ·rename_i i hi
    simp only[aD,aY,aI]at c4
    obtain⟨⟨⟨⟨⟨⟨d1,d2⟩,d3⟩,d4⟩,d5⟩,d6⟩,d7⟩:=c4
    obtain⟨v,rd,wr,h1,h2⟩:=zy7 (m:=m) (n:=n) (K:=fun v rd wr=>K v rd wr (n+1)) ho hb ha hta c0 c1 c2 c3 hi d1 d2 d3 d4 d5 d6 d7 hK
    exact⟨v,rd,wr,n+1,h1,h2⟩
   ·cases c4
  ·cases hc
 | mkfn f caps=>
  cases ho:o.op<;>rw[ho]at hc<;>first|(simp[zak]at hc;done)|skip
  simp only[ev]at hK
  split at hK
  ·rename_i cs e
   split at hK
   ·rename_i ds hd
    have:=zhZ hd
    subst this
    exact⟨_,_,_,_,(zvs ho hc e).weaken fn_D,hK⟩
   ·exact⟨_,_,_,_,zvs ho hc e,hK⟩
  ·exact hK.elim
 | call f xs=>
  cases ho:o.op<;>rw[ho]at hc<;>first|(simp[zak]at hc;done)|skip
  simp only[ev]at hK
  split at hK
  ·rename_i ds e
   obtain⟨v,hp,hK⟩:=hK
   exact⟨_,_,_,_,zDf ho hc e hp,hK⟩
  ·exact hK.elim
 | calld x xs=>
  cases ho:o.op<;>rw[ho]at hc<;>first|(simp[zak]at hc;done)|skip
  simp only[ev]at hK
  split at hK
  ·rename_i f caps ds ex e
   obtain⟨v,hp,hK⟩:=hK
   exact⟨_,_,_,_,zA8 ho hc ex e hp,hK⟩
  ·exact hK.elim
 | cmpS f x y=>
  cases ho:o.op<;>rw[ho]at hc<;>first|(simp[zak]at hc;done)|skip
  simp only[ev]at hK
  split at hK
  ·rename_i s t ex ey
   exact⟨_,_,_,_,zDh ho hc ex ey,hK⟩
  ·exact hK.elim
 |mkmap=>
  cases ho:o.op<;>rw[ho]at hc<;>first|(simp[zak]at hc;done)|skip
  simp only[ev]at hK
  exact⟨_,_,_,_,zBO ho (by simpa only[zak]using hc) hK.1,hK.2⟩
 | mlook kk ok ag z x k=>
  cases ho:o.op<;>rw[ho]at hc<;>first|(simp[zak]at hc;done)|skip
  simp only[ev]at hK
  split at hK
  ·rename_i b d ex ek
   split at hK
   ·rename_i es em
    split at hK
    ·rename_i i v hf
     exact⟨_,_,_,_,zs6 ho hc ex ek em hf,hK⟩
    ·rename_i hf
     exact⟨_,_,_,_,zs6 ho hc ex ek em hf,hK⟩
    ·exact hK.elim
   ·exact hK.elim
  ·exact hK.elim
 | mset kk x k v=>
  cases ho:o.op<;>rw[ho]at hc<;>first|(simp[zak]at hc;done)|skip
  all_goals
   simp only[zak,aD]at hc
   simp only[ev]at hK
   split at hK
   ·rename_i b d ex ek
    split at hK
    ·rename_i es em
     split at hK
     ·rename_i i v' hf
      first
       |exact⟨_,_,_,_,zlo (.inl ho) hc.1.1.1 hc.1.1.2 hc.1.2 hc.2 ex ek em hf,hK⟩
       |exact⟨_,_,_,_,zlo (.inr ho) hc.1.1.1 hc.1.1.2 hc.1.2 hc.2 ex ek em hf,hK⟩
     ·rename_i hf
      first
       |exact⟨_,_,_,_,zlo (.inl ho) hc.1.1.1 hc.1.1.2 hc.1.2 hc.2 ex ek em hf,hK⟩
       |exact⟨_,_,_,_,zlo (.inr ho) hc.1.1.1 hc.1.1.2 hc.1.2 hc.2 ex ek em hf,hK⟩
     ·exact hK.elim
    ·exact hK.elim
   ·exact hK.elim
 | mdel kk x k=>
  cases ho:o.op<;>rw[ho]at hc<;>first|(simp[zak]at hc;done)|skip
  simp only[ev]at hK
  split at hK
  ·rename_i b d ex ek
   split at hK
   ·rename_i es em
    split at hK
    ·rename_i i v' hf
     exact⟨_,_,_,_,zv8 ho hc ex ek em hf,hK⟩
    ·rename_i hf
     exact⟨_,_,_,_,zv8 ho hc ex ek em hf,hK⟩
    ·exact hK.elim
   ·exact hK.elim
  ·exact hK.elim
 | mlen x=>
  cases ho:o.op<;>rw[ho]at hc<;>first|(simp[zak]at hc;done)|skip
  simp only[ev]at hK
  split at hK
  ·rename_i b ex
   split at hK
   ·rename_i es em
    exact⟨_,_,_,_,zDL ho hc ex em hK.1,hK.2⟩
   ·exact hK.elim
  ·exact hK.elim
 | mksl z bytes x=>
  cases ho:o.op<;>rw[ho]at hc<;>first|(simp[zak]at hc;done)|skip
  simp only[ev]at hK
  split at hK
  ·rename_i j ex
   exact⟨_,_,_,_,zDM ho hc ex hK.1 hK.2.1,hK.2.2⟩
  ·exact hK.elim
 | mkslM z bytes x y=>
  cases ho:o.op<;>rw[ho]at hc<;>first|(simp[zak]at hc;done)|skip
  simp only[ev]at hK
  split at hK
  ·rename_i j l ex ey
   exact⟨_,_,_,_,zBS ho hc ex ey hK.1 hK.2.1 hK.2.2.1 hK.2.2.2.1,hK.2.2.2.2⟩
  ·exact hK.elim
 | minI mx x y=>
  cases ho:o.op<;>rw[ho]at hc<;>first|(simp[zak]at hc;done)|skip
  simp only[ev]at hK
  split at hK
  ·rename_i k a k' b ex ey
   obtain⟨rfl,hK⟩:=hK
   exact⟨_,_,_,_,zDO ho hc ex ey,hK⟩
  ·exact hK.elim
 | isNilP ne x=>
  cases ho:o.op<;>rw[ho]at hc<;>first|(simp[zak]at hc;done)|skip
  simp only[ev]at hK
  split at hK
  ·rename_i ex
   exact⟨_,_,_,_,zq4 ho hc (.inl ⟨ex,rfl⟩),hK⟩
  ·rename_i cs off ex
   exact⟨_,_,_,_,zq4 ho hc (.inr ⟨⟨cs,off,ex⟩,rfl⟩),hK⟩
  ·exact hK.elim
 | isNil ne x=>
  cases ho:o.op<;>rw[ho]at hc<;>first|(simp[zak]at hc;done)|skip
  simp only[ev]at hK
  split at hK
  ·rename_i ex
   exact⟨_,_,_,_,zs7 ho hc ex (.inr ⟨by simp,rfl⟩),hK⟩
  ·rename_i ex
   exact⟨_,_,_,_,zs7 ho hc ex (.inl rfl),hK⟩
  ·exact hK.elim
 | eqAg ne ks x y=>
  cases ho:o.op<;>rw[ho]at hc<;>first|(simp[zak]at hc;done)|skip
  simp only[ev]at hK
  split at hK
  ·rename_i cs cs' ex ey
   split at hK
   ·rename_i a b ea eb
    split at hK
    ·rename_i t ht
     exact⟨_,_,_,_,zDN ho hc ex ey ea eb ht,hK⟩
    ·exact hK.elim
   ·exact hK.elim
  ·exact hK.elim
 | callM f xs=>
  cases ho:o.op<;>rw[ho]at hc<;>first|(simp[zak]at hc;done)|skip
  simp only[ev,zh8]at hK
  obtain⟨l,args,bs,v,bs',hp,hnd,hln,hvs,hal,hlt,hat,hfr,hK⟩:=hK
  refine⟨_,_,_,_,zrL hp hnd hln hal hlt hat hfr (fun ph ρ w a hg=>?_),hK⟩
  simp only[zak,aD]at hc
  obtain⟨c0,c1⟩:=hc
  rename_i c
  split at c0
  ·rename_i g hg'
   simp only[aY]at c0
   subst c0
   have rv:=ziy c1 (ph:=ph) (ρ:=ρ) (get:=get) (a:=a) fun k hk=>hg k (by rw[ho];simp[Op.operands,Call.operands,hg'];simpa using hk)
   refine⟨_,hvs▸rv,?_⟩
   unfold execOp;rw[ho]
   show Runs P (do let d<-resolve a.eval c o.type;invoke d.target d.args) w _ w
   unfold resolve
   rw[hg']
   refine(fE _).bind ?_
   have e1:(c.args.toList.map a.eval).toArray=c.args.map a.eval:=by apply bv;simp
   rw[e1]
   simp only[invoke,dZ,Array.append_empty]
   have:=zfk (w:=w) (args:=c.args.map a.eval) hp.1
   simpa using this
  ·cases c0
 | calldM x xs=>
  cases ho:o.op<;>rw[ho]at hc<;>first|(simp[zak]at hc;done)|skip
  rename_i c
  simp only[ev]at hK
  have key:∀(f:FuncId) (caps:List AC),X get x=.c (.fn (.func f) caps)\/(∃ds,caps=ds.map .d/\X get x=.c (.d (.fn (.func f) ds)))->zh8 P f (xs.map (X get)++caps.map .c) m n K->∃v rd wr n',zao P o get m rd wr v/\K v rd wr n':=by
   intro f caps hcap hK
   simp only[zh8]at hK
   obtain⟨l,args,bs,v,bs',hp,hnd,hln,hvs,hal,hlt,hat,hfr,hK⟩:=hK
   refine⟨_,_,_,_,zrL hp hnd hln hal hlt hat hfr (fun ph ρ w a hg=>?_),hK⟩
   simp only[zak,aD]at hc
   obtain⟨c0,c1⟩:=hc
   split at c0
   ·rename_i ox hg'
    have rx:=zaq c0 (ph:=ph) (ρ:=ρ) (get:=get) (a:=a) fun k hk=>hg k (by rw[ho];simp[Op.operands,Call.operands,hg',hk])
    have rv:=ziy c1 (ph:=ph) (ρ:=ρ) (get:=get) (a:=a) fun k hk=>hg k (by rw[ho];simp[Op.operands,Call.operands,hg'];right;simpa using hk)
    have rcap:∃vs:List Value,a.eval ox=.func (.func f) #[] vs.toArray/\vs.length=caps.length/\zae ph ρ caps vs:=by
     rcases hcap with e|⟨ds,rfl,e⟩
     ·rw[e]at rx;simpa only[RepV,RepC]using rx
     ·rw[e]at rx
      simp only[RepV,RepC,RepD]at rx
      obtain⟨vs,e1,e2,e3⟩:=rx
      exact⟨vs,e1,by simpa using e2,zae.of_D e3⟩
    obtain⟨vs,e1,e2,e3⟩:=rcap
    have app:∀(as:List AV) (us:List Value),zas ph ρ as us->∀(cs:List AC) (ws:List Value),ws.length=cs.length->zae ph ρ cs ws->zas ph ρ (as++cs.map .c) (us++ws):=by
     intro as
     induction as with
     | nil=>
      intro us hu cs
      simp only[zas]at hu
      subst hu
      induction cs with
      |nil=>intro ws hl _;cases ws<;>simp_all[zas]
      | cons c cs ih=>
       intro ws hl hr
       cases ws with
       |nil=>simp at hl
       |cons w ws=>
        simp only[zae]at hr
        simp only[List.nil_append,List.map_cons,zas,RepV]
        exact⟨hr.1.2,by simpa using ih ws (by simpa using hl) hr.2⟩
     | cons x as ih=>
      intro us hu cs ws hl hr
      cases us with
      |nil=>simp[zas]at hu
      |cons u us=>
       simp only[zas]at hu
       simp only[List.cons_append,zas]
       exact⟨hu.1,ih us hu.2 cs ws hl hr⟩
    refine⟨_,hvs▸app _ _ rv caps vs e2 e3,?_⟩
    unfold execOp;rw[ho]
    show Runs P (do let d<-resolve a.eval c o.type;invoke d.target d.args) w _ w
    unfold resolve
    rw[hg']
    simp only[e1]
    refine(fE _).bind ?_
    have e4:(c.args.toList.map a.eval++vs).toArray=c.args.map a.eval++vs.toArray:=by apply bv;simp
    rw[e4]
    simp only[invoke,dZ]
    exact zfk (w:=w) (args:=c.args.map a.eval++vs.toArray) hp.1
   ·cases c0
  split at hK
  ·rename_i f caps ex
   exact key f caps (.inl ex) hK
  ·rename_i f caps ex
   refine key f (caps.map .d) (.inr ⟨caps,rfl,ex⟩) ?_
   rw[bJ]
   exact hK
  ·exact hK.elim
end
end Go.Abs
namespace Go.Abs
def look:List (Nat × AV)->Nat->AV
 |[],_=>.c (.d .any)
 |(k,v)::l,j=>if j=k then v else look l j
structure St where
 t:List (Nat × AV)
 m:Hp
 n:Nat
def St.get(S:St)(k:Nat):AV:=look S.t k
structure MO where
 g:Option (Nat × Bool)
 dst:Option Nat
 op:MOp
def St.put(S:St)(dst:Option Nat)(v:AV)(wr:List (Nat × Blk))(n:Nat):St:=
 ⟨match dst with|some d=>(d,v)::S.t|none=>S.t,wrs S.m wr,n⟩
def zcP:AV:=.c (.d (.sc undef))
def St.know(S:St)(t:Nat)(b:Bool):St:=⟨(t,.c (.d (.bool b)))::S.t,S.m,S.n⟩
def St.know_get{S:St}{t:Nat}{b:Bool}(h:S.get t=.c (.d (.bool b))):(S.know t b).get=S.get:=by
 funext k
 unfold St.get St.know at*
 simp only[look]
 split
 ·rename_i e;rw[e,h]
 ·rfl
def runO(P:Program):List MO->St->(St->Prop)->Prop
 |[],S,K=>K S
 | o::os,S,K=>match o.g with
  |none=>ev P S.get S.m S.n (fun v _ wr n=>runO P os (S.put o.dst v wr n) K) o.op
  |some (t,want)=>match S.get t with
   |.c (.d (.bool b))=>(b=want->ev P (S.know t want).get S.m S.n (fun v _ wr n=>runO P os ((S.know t want).put o.dst v wr n) K) o.op)/\(b=(!want)->runO P os ((S.know t (!want)).put o.dst zcP [] S.n) K)
   |.c (.d (.sc (.tuple _)))=>runO P os (S.put o.dst zcP [] S.n) K
   |_=>False
structure Ctx where
 h:PH
 ρ:RM
 m:Hp
 w:World
 N:Nat
structure Rel (P:Program) (c:Ctx) (get:Nat->AV) (m:Hp) (a:Act) (w:World):Prop where
 gnd:Gnd P c.h
 defers:a.defers=[]
 size:a.tmps.size=c.N
 ex:∃(h:PH) (ρ:RM),HRel h ρ m w.heap/\zgh c.h c.ρ c.m c.w.heap h ρ m w.heap/\Same c.w w/\∀k,RepV h ρ (get k) (a.tmps.getD k undef)
def chkG(ops:Array Oper):Option (Nat × Bool)->Option (Nat × Bool)->Bool
 |none,none=>true
 |some (t,b),some (j,b')=>b==b'&&((ops[j]?).bind (·.dst))==some t
 |_,_=>false
def znK(P:Program)(N:Nat)(ops:Array Oper)(mo:MO)(o:Oper):Bool:=
 zak P mo.op o.op&&mo.dst==o.dst&&(match mo.dst with|some d=>decide (d<N)|none=>true)&&chkG ops mo.g o.guard
def zcd(P:Program)(N:Nat)(ops:Array Oper):List MO->List Oper->Bool
 |[],[]=>true
 |mo::mos,o::os=>znK P N ops mo o&&zcd P N ops mos os
 |_,_=>false
section
variable {P:Program} {c:Ctx}
def zvT{a:Act}{dst:Option Nat}{v:Value}{k:Nat}(h:∀d,dst=some d->d<a.tmps.size):
  (a.put dst v).tmps.getD k undef=if dst=some k then v else a.tmps.getD k undef:=by
 cases dst with
 |none=>simp[Act.put]
 | some d=>
  have hd:=h d rfl
  simp only[Act.put,ah]
  by_cases hk:d=k
  ·subst hk;simp[aZ,hd]
  ·rw[aB hk]
   simp[aZ,bQ hk]
def zvU{a:Act}{dst:Option Nat}{v:Value}:(a.put dst v).tmps.size=a.tmps.size:=by
 cases dst<;>simp[Act.put]
def put_defers{a:Act}{dst:Option Nat}{v:Value}:(a.put dst v).defers=a.defers:=by
 cases dst<;>rfl
def updO(g:Nat->AV)(dst:Option Nat)(v:AV):Nat->AV:=fun k=>if dst=some k then v else g k
def St.put_get(S:St)(dst:Option Nat)(v:AV)(wr:List (Nat × Blk))(n:Nat):(S.put dst v wr n).get=updO S.get dst v:=by
 funext k
 unfold St.get St.put updO
 cases dst with
 |none=>simp
 |some d=>
  simp only[look,ah]
  by_cases h:k=d
  ·subst h;simp
  ·rw[aB h,aB (Ne.symm h)]
def zvV{get:Nat->AV}{m m':Hp}{a:Act}{w w':World}{h h':PH}{ρ ρ':RM}{dst:Option Nat}{v:AV}{vC:Value}(hG:Gnd P c.h)(hdef:a.defers=[])(hsz:a.tmps.size=c.N)(hd:∀d,dst=some d->d<c.N)
  (S0:zgh c.h c.ρ c.m c.w.heap h ρ m w.heap) (e0:Same c.w w) (hg:∀k,RepV h ρ (get k) (a.tmps.getD k undef)) (S:Step h ρ m w.heap h' ρ' m' w'.heap) (H:HRel h' ρ' m' w'.heap) (e:Same w w') (rv:RepV h' ρ' v vC):
  Rel P c (updO get dst v) m' (a.put dst vC) w' where
 gnd:=hG
 defers:=by rw[Go.Abs.put_defers];exact hdef
 size:=by rw[zvU];exact hsz
 ex:=by
  refine⟨h',ρ',H,S0.trans S,e0.trans e,fun k=>?_⟩
  rw[zvT (fun d h=>by rw[hsz];exact hd d h)]
  unfold updO
  split
  ·exact rv
  ·exact RepV.mono S.hle S.rle _ _ (hg k)
def zvW{get:Nat->AV}{m:Hp}{a:Act}{w:World}{dst:Option Nat}(r:Rel P c get m a w)(hd:∀d,dst=some d->d<c.N):Rel P c (updO get dst zcP) m (a.put dst undef) w where
 gnd:=r.gnd
 defers:=by rw[Go.Abs.put_defers];exact r.defers
 size:=by rw[zvU];exact r.size
 ex:=by
  obtain⟨h,ρ,H,S0,e0,hg⟩:=r.ex
  refine⟨h,ρ,H,S0,e0,fun k=>?_⟩
  rw[zvT (fun d h=>by rw[r.size];exact hd d h)]
  unfold updO
  split
  ·simp[zcP,RepV,RepC,RepD]
  ·exact hg k
def zna{ops:Array Oper}{a:Act}{j t:Nat}{b:Bool}(h:((ops[j]?).bind (·.dst))=some t)(e:a.tmps.getD t undef=.bool b):yielded ops a.tmps j=some b:=by
 unfold yielded
 rw[h]
 simp only[Option.bind_some]
 rw[aZ]at e
 cases ht:a.tmps[t]? with
 |none=>rw[ht]at e;cases e
 |some v=>rw[ht]at e;simp only[Option.getD_some]at e;rw[e]
def ztn{ops:Array Oper}{a:Act}{j t:Nat}{x:Array Value}(h:((ops[j]?).bind (·.dst))=some t)(e:a.tmps.getD t undef=.tuple x):yielded ops a.tmps j=none:=by
 unfold yielded
 rw[h]
 simp only[Option.bind_some]
 rw[aZ]at e
 cases ht:a.tmps[t]? with
 |none=>rfl
 |some v=>rw[ht]at e;simp only[Option.getD_some]at e;rw[e]
def zk7{ops:Array Oper}{a:Act}{o:Oper}{g:Option (Nat × Bool)}(h:chkG ops g o.guard=true)(hy:∀t b,g=some (t,b)->a.tmps.getD t undef=.bool b):Region.wanted o (yielded ops a.tmps)=true:=by
 unfold Region.wanted
 unfold chkG at h
 split at h
 ·rename_i hg;rw[hg]
 ·rename_i t b j b' hg
  simp only[aD,aY]at h
  rw[hg]
  simp only[zna h.2 (hy t b rfl),aY]
  rw[h.1]
 ·cases h
def znb{ops:Array Oper}{a:Act}{o:Oper}{t:Nat}{b:Bool}(h:chkG ops (some (t,b)) o.guard=true)(hy:(a.tmps.getD t undef=.bool (!b))\/∃x,a.tmps.getD t undef=.tuple x):Region.wanted o (yielded ops a.tmps)=false:=by
 unfold Region.wanted
 unfold chkG at h
 split at h
 ·rename_i e _;cases e
 ·rename_i t' b' j b'' e hg
  cases e
  simp only[aD,aY]at h
  obtain⟨h1,h2⟩:=h
  subst h1
  rw[hg]
  dsimp only
  rcases hy with hy|⟨x,hy⟩
  ·rw[zna h2 hy];cases b<;>rfl
  ·rw[ztn h2 hy];rfl
 ·cases h
def zrF{ops:Array Oper}{Q:Exit->Act->World->Prop}{K:St->Prop}(hQ:∀S a w,Rel P c S.get S.m a w->K S->Q .normal a w):∀{mos:List MO} {os:List Oper} {i:Nat} {S:St} {a:Act} {w:World},zcd P c.N ops mos os=true->
  (∀j o,os[j]?=some o->ops[i+j]?=some o)->runO P mos S K->Rel P c S.get S.m a w->wpOps P ops Q (List.range' i os.length) a w
 |[],[],i,S,a,w,_,_,h,r=>by simp only[List.length_nil,List.range'_zero,wpOps];exact hQ S a w r h
 |[],_::_,_,_,_,_,h,_,_,_=>by simp[zcd]at h
 |_::_,[],_,_,_,_,h,_,_,_=>by simp[zcd]at h
 | mo::mos,o::os,i,S,a,w,hc,hi,h,r=>by
  simp only[zcd,aD]at hc
  obtain⟨hc0,hcs⟩:=hc
  simp only[znK,aD,aY]at hc0
  obtain⟨⟨⟨c1,c2⟩,c3⟩,c4⟩:=hc0
  have hd:∀d,mo.dst=some d->d<c.N:=fun d hd=>by rw[hd]at c3;simpa using c3
  have ho:=hi 0 o (by simp)
  simp only[Nat.add_zero]at ho
  have hi':∀j o',os[j]?=some o'->ops[i+1+j]?=some o':=fun j o' hj=>by
   have:=hi (j+1) o' (by simpa using hj)
   rwa[show i+(j+1)=i+1+j from by omega]at this
  simp only[List.length_cons,dR,wpOps,ho]
  have run:∀S₁:St,S₁.get=S.get->S₁.m=S.m->ev P S.get S.m S.n (fun v _ wr n=>runO P mos (S₁.put mo.dst v wr n) K) mo.op->o.wp P a w (wpOps P ops Q (List.range' (i+1) os.length)) Q:=by
   intro S₁ eg em he
   obtain⟨v,rd,wr,n',hs,hk⟩:=zD5 c1 he
   obtain⟨ph,ρ,H,S0,e0,hg⟩:=r.ex
   refine hs S.m (fun _ _=>rfl) (fun _ _=>rfl) ph ρ w a H (r.gnd.mono S0.hle) (fun k _=>hg k) _ _ fun h' ρ' w' vC st K' e rv=>?_
   rw[<-c2]
   refine zrF hQ hcs hi' hk ?_
   rw[St.put_get,eg]
   have e2:(S₁.put mo.dst v wr n').m=wrs S.m wr:=by rw[<-em];rfl
   rw[e2]
   exact zvV r.gnd r.defers r.size hd S0 e0 hg st K' e rv
  have skip:∀S₁:St,S₁.get=S.get->S₁.m=S.m->runO P mos (S₁.put mo.dst zcP [] S.n) K->wpOps P ops Q (List.range' (i+1) os.length) (a.put o.dst undef) w:=by
   intro S₁ eg em hk
   rw[<-c2]
   refine zrF hQ hcs hi' hk ?_
   rw[St.put_get,eg]
   have e2:(S₁.put mo.dst zcP [] S.n).m=S.m:=by rw[<-em];rfl
   rw[e2]
   exact zvW r hd
  obtain⟨ph,ρ,H,S0,e0,hg⟩:=r.ex
  simp only[runO]at h
  split at h
  ·rename_i hgm
   rw[hgm]at c4
   rw[aC (zk7 c4 (fun t b hh=>by cases hh))]
   exact .inl (run S rfl rfl h)
  ·rename_i t want hgm
   rw[hgm]at c4
   have rt:=hg t
   split at h
   ·rename_i b et
    rw[et]at rt
    simp only[RepV,RepC,RepD]at rt
    by_cases hb:b=want
    ·subst hb
     rw[aC (zk7 c4 (fun t' b' hh=>by cases hh;exact rt))]
     have h1:=h.1 rfl
     rw[St.know_get et]at h1
     exact .inl (run _ (St.know_get et) rfl h1)
    ·have hb':b=(!want):=by cases b<;>cases want<;>simp_all
     rw[aB (by rw[znb c4 (.inl (by rw[rt,hb']))];simp)]
     exact skip _ (St.know_get (by rw[et,hb'])) rfl (h.2 hb')
   ·rename_i x et
    rw[et]at rt
    simp only[RepV,RepC,RepD]at rt
    rw[aB (by rw[znb c4 (.inr ⟨x,rt⟩)];simp)]
    exact skip S rfl rfl h
   ·exact h.elim
end
abbrev gF:=@St.know_get
end Go.Abs
namespace Go.Abs
abbrev FP:=List Nat × List Nat
def runD(P:Program):List MO->St->List FP->(St->List FP->Prop)->Prop
 |[],S,fps,K=>K S fps.reverse
 | o::os,S,fps,K=>match o.g with
  |none=>ev P S.get S.m S.n (fun v rd wr n=>runD P os (S.put o.dst v wr n) ((rd,wr.map (·.1))::fps) K) o.op
  |some (t,want)=>match S.get t with
   |.c (.d (.bool b))=>(b=want->ev P (S.know t want).get S.m S.n (fun v rd wr n=>runD P os ((S.know t want).put o.dst v wr n) ((rd,wr.map (·.1))::fps) K) o.op)/\(b=(!want)->runD P os ((S.know t (!want)).put o.dst zcP [] S.n) (([],[])::fps) K)
   |.c (.d (.sc (.tuple _)))=>runD P os (S.put o.dst zcP [] S.n) (([],[])::fps) K
   |_=>False
def touch(a b:FP):Bool:=a.2.any (fun x=>b.1.contains x||b.2.contains x)||b.2.any (fun x=>a.1.contains x)
def zpL(bef:List Nat)(fps:List FP):Bool:=
 (List.range fps.length).all fun j=>(List.range j).all fun i=>(bef.getD j 0).testBit i|| !touch (fps.getD i ([],[])) (fps.getD j ([],[]))
def zrb(ops:Array Oper)(bef:List Nat):Bool:=
 (List.range ops.size).all fun j=>match ops[j]? with
  |some o=>(o.after.all fun e=> !Region.binds .any e||decide (e.on<j))&&
   (List.range ops.size).all fun i=> !(bef.getD j 0).testBit i||o.after.any fun e=>Region.binds .any e&&(e.on==i||(bef.getD e.on 0).testBit i)
  |none=>false
def ztT(ops:Array Oper)(bef:List Nat):Bool:=
 (List.range ops.size).all fun j=>(List.range j).all fun i=>(bef.getD j 0).testBit i||match ops[i]?,ops[j]? with
  |some a,some b=>a.apart ops b
  |_,_=>false
section
variable {α:Type}
def wra:(Nat->α)->List (Nat × α)->(Nat->α)
 |f,[]=>f
 |f,(k,v)::l=>wra (upd f k v) l
def zfT:∀(l:List (Nat × α)) (f:Nat->α) (k:Nat),(∀x,x∈l->x.1≠k)->wra f l k=f k
 |[],_,_,_=>rfl
 |(j,v)::l,f,k,h=>by
  simp only[wra]
  rw[zfT l _ k (fun x hx=>h x (by simp[hx]))]
  exact zav _ _ (Ne.symm (h (j,v) (by simp)))
def ztU:∀(l:List (Nat × α)) (f g:Nat->α) (k:Nat),(∃x,x∈l/\x.1=k)->wra f l k=wra g l k
 |[],_,_,_,h=>by obtain⟨x,hx,_⟩:=h;cases hx
 | (j,v)::l,f,g,k,h=>by
  simp only[wra]
  by_cases hk:∃x,x∈l/\x.1=k
  ·exact ztU l _ _ k hk
  ·have hne:∀x,x∈l->x.1≠k:=fun x hx e=>hk ⟨x,hx,e⟩
   rw[zfT l _ k hne,zfT l _ k hne]
   obtain⟨x,hx,e⟩:=h
   rcases aM.1 hx with hx|hx
   ·subst hx;simp only at e;subst e;simp[zat]
   ·exact absurd e (hne x hx)
def zAb(l:List (Nat × α)){f g:Nat->α}{k:Nat}(h:f k=g k):wra f l k=wra g l k:=by
 by_cases hk:∃x,x∈l/\x.1=k
 ·exact ztU l f g k hk
 ·have hne:∀x,x∈l->x.1≠k:=fun x hx e=>hk ⟨x,hx,e⟩
  rw[zfT l f k hne,zfT l g k hne,h]
def selF(s:Nat->Bool):Nat->(Nat->α)->List (List (Nat × α))->(Nat->α)
 |_,f,[]=>f
 |i,f,x::l=>selF s (i+1) (if s i then wra f x else f) l
def zdi{k:Nat}:∀(l:List (List (Nat × α))) (i:Nat) (s t:Nat->Bool) (f g:Nat->α),(∀q x,l[q]?=some x->(∃y,y∈x/\y.1=k)->s (i+q)=t (i+q))->f k=g k->selF s i f l k=selF t i g l k
 |[],_,_,_,_,_,_,h=>h
 | x::l,i,s,t,f,g,hs,h=>by
  simp only[selF]
  refine zdi l (i+1) s t _ _ (fun q y hq hy=>?_) ?_
  ·have:=hs (q+1) y (by simpa using hq) hy
   rwa[show i+1+q=i+(q+1)from by omega]
  ·by_cases hk:∃y,y∈x/\y.1=k
   ·have:=hs 0 x (by simp) hk
    simp only[Nat.add_zero]at this
    rw[this]
    split
    ·exact zAb x h
    ·exact h
   ·have hne:∀y,y∈x->y.1≠k:=fun y hy e=>hk ⟨y,hy,e⟩
    have e1:(if s i then wra f x else f) k=f k:=by split<;>simp[zfT x f k hne]
    have e2:(if t i then wra g x else g) k=g k:=by split<;>simp[zfT x g k hne]
    rw[e1,e2,h]
def zju{k:Nat}:∀(l:List (List (Nat × α))) (i j:Nat) (s t:Nat->Bool) (f:Nat->α) (x:List (Nat × α)),l[j]?=some x->(∀q,s (i+q)=(t (i+q)||q==j))->(t (i+j)=false)->
  (∀q y,j<q->l[q]?=some y->t (i+q)=true->(∃z,z∈x/\z.1=k)->∀z,z∈y->z.1≠k)->selF s i f l k=wra (selF t i f l) x k
 |[],_,_,_,_,_,_,h,_,_,_=>by simp at h
 | y ::l,i,0,s,t,f,x,h,hs,ht,hn=>by
  simp at h;subst h
  have h0:=hs 0
  simp only[Nat.add_zero,beq_self_eq_true,Bool.or_true]at h0 ht
  simp only[selF]
  rw[h0,ht]
  simp only[if_true,ae,if_false]
  have hst:∀q,s (i+1+q)=t (i+1+q):=fun q=>by
   have:=hs (q+1)
   rw[show i+(q+1)=i+1+q from by omega]at this
   simpa using this
  by_cases hk:∃z,z∈y/\z.1=k
  ·-- the later ones do not write it
   have later:∀(f:Nat->α),selF t (i+1) f l k=f k:=by
    intro f
    have:selF t (i+1) f l k=selF (fun _=>false) (i+1) f l k:=by
     refine zdi l (i+1) t (fun _=>false) f f (fun q x hq hx=>?_) rfl
     have h2:=hn (q+1) x (by omega) (by simpa using hq)
     rw[show i+(q+1)=i+1+q from by omega]at h2
     cases htq:t (i+1+q)with
     |false=>rfl
     |true=>
      obtain⟨z,hz,e⟩:=hx
      exact absurd e (h2 htq hk z hz)
    rw[this]
    have none:∀(l:List (List (Nat × α))) (i:Nat) (f:Nat->α),selF (fun _=>false) i f l=f:=by
     intro l
     induction l with
     |nil=>intro i f;rfl
     |cons x l ih=>intro i f;simp only[selF];exact ih _ _
    rw[none]
   have e1:selF s (i+1) (wra f y) l k=selF t (i+1) (wra f y) l k:=zdi l (i+1) s t _ _ (fun q _ _ _=>hst q) rfl
   rw[e1,later]
   exact ztU y _ _ k hk
  ·have hne:∀z,z∈y->z.1≠k:=fun z hz e=>hk ⟨z,hz,e⟩
   rw[zfT y _ k hne]
   exact zdi l (i+1) s t _ _ (fun q _ _ _=>hst q) (zfT y f k hne)
 | y::l,i,j+1,s,t,f,x,h,hs,ht,hn=>by
  have h0:=hs 0
  simp only[Nat.add_zero]at h0
  have h0':s i=t i:=by simpa using h0
  simp only[selF,h0']
  refine zju l (i+1) j s t _ x (by simpa using h) (fun q=>?_) ?_ (fun q z hq hz htq hx w hw=>?_)
  ·have:=hs (q+1)
   rw[show i+(q+1)=i+1+q from by omega]at this
   simpa using this
  ·rwa[show i+1+j=i+(j+1)from by omega]
  ·exact hn (q+1) z (by omega) (by simpa using hz) (by rwa[show i+(q+1)=i+1+q from by omega]) hx w hw
end
structure E where
 v:AV
 rd:List Nat
 wr:List (Nat × Blk)
def gYes(get:Nat->AV):Option (Nat × Bool)->Prop
 |none=>True
 |some (t,b)=>get t=.c (.d (.bool b))
def gNo(get:Nat->AV):Option (Nat × Bool)->Prop
 |none=>False
 |some (t,b)=>get t=.c (.d (.bool (!b)))\/∃x,get t=.c (.d (.sc (.tuple x)))
def zjN(P:Program)(get:Nat->AV)(m:Hp)(mo:MO)(o:Oper)(e:E):Prop:=
 (gYes get mo.g/\zao P o get m e.rd e.wr e.v)\/(gNo get mo.g/\e.v=zcP/\e.rd=[]/\e.wr=[])
def dw(mo:MO)(e:E):List (Nat × AV):=match mo.dst with|some d=>[(d,e.v)]|none=>[]
def zpM:∀(l:List (Nat × Blk)) (m:Hp),wrs m l=wra m l
 |[],_=>rfl
 |(k,v)::l,m=>by simp only[wrs,wra];exact zpM l _
def zrc(get:Nat->AV)(mo:MO)(e:E):updO get mo.dst e.v=wra get (dw mo e):=by
 unfold updO dw
 cases mo.dst with
 |none=>funext k;simp[wra]
 |some d=>
  funext k
  simp only[wra,upd,ah]
  by_cases h:d=k
  ·subst h;simp
  ·rw[aB h,aB (Ne.symm h)]
def TrOK(P:Program):(Nat->AV)->Hp->List MO->List Oper->List E->Prop
 |_,_,[],[],[]=>True
 |get,m,mo::mos,o::os,e::es=>zjN P get m mo o e/\TrOK P (updO get mo.dst e.v) (wrs m e.wr) mos os es
 |_,_,_,_,_=>False
def zxd{P:Program}{N:Nat}{ops:Array Oper}{K:St->List FP->Prop}:∀{mos:List MO} {os:List Oper} {S:St} {fps:List FP},zcd P N ops mos os=true->runD P mos S fps K->
  ∃(es:List E) (S':St),TrOK P S.get S.m mos os es/\S'.get=selF (fun _=>true) 0 S.get ((mos.zip es).map fun x=>dw x.1 x.2)/\S'.m=selF (fun _=>true) 0 S.m (es.map (·.wr))/\K S' (fps.reverse++es.map fun e=>(e.rd,e.wr.map (·.1)))
 |[],[],S,fps,_,h=>⟨[],S,trivial,rfl,rfl,by simpa[runD]using h⟩
 |[],_::_,_,_,h,_=>by simp[zcd]at h
 |_::_,[],_,_,h,_=>by simp[zcd]at h
 | mo ::mos,o::os,S,fps,hc,h=>by
  simp only[zcd,aD]at hc
  obtain⟨hc0,hcs⟩:=hc
  simp only[znK,aD,aY]at hc0
  obtain⟨⟨⟨c1,c2⟩,c3⟩,c4⟩:=hc0
  have shift:∀{β:Type} (l:List (List (Nat × β))) (i j:Nat) (f:Nat->β),selF (fun _=>true) i f l=selF (fun _=>true) j f l:=by
   intro β l
   induction l with
   |nil=>intro i j f;rfl
   |cons x l ih=>intro i j f;simp only[selF];exact ih _ _ _
  have fin:∀(S₁:St) (e:E) (n:Nat),S₁.get=S.get->S₁.m=S.m->zjN P S.get S.m mo o e->runD P mos (S₁.put mo.dst e.v e.wr n) ((e.rd,e.wr.map (·.1))::fps) K->∃(es:List E) (S':St),TrOK P S.get S.m (mo::mos) (o::os) es/\
    S'.get=selF (fun _=>true) 0 S.get (((mo::mos).zip es).map fun x=>dw x.1 x.2)/\S'.m=selF (fun _=>true) 0 S.m (es.map (·.wr))/\K S' (fps.reverse++es.map fun e=>(e.rd,e.wr.map (·.1))):=by
   intro S₁ e n eg em hs hr
   obtain⟨es,S',t1,t2,t3,t4⟩:=zxd hcs hr
   have e1:(S₁.put mo.dst e.v e.wr n).get=updO S.get mo.dst e.v:=by rw[<-eg];exact St.put_get ..
   have e2:(S₁.put mo.dst e.v e.wr n).m=wrs S.m e.wr:=by rw[<-em];rfl
   refine⟨e::es,S',⟨hs,by rw[<-e1,<-e2];exact t1⟩,?_,?_,by simpa using t4⟩
   ·rw[t2,e1,zrc]
    simp only[List.zip_cons_cons,List.map_cons,selF,if_true]
    exact shift _ _ _ _
   ·rw[t3,e2,zpM]
    simp only[List.map_cons,selF,if_true]
    exact shift _ _ _ _
  have main:∃(S₁:St) (e:E) (n:Nat),S₁.get=S.get/\S₁.m=S.m/\zjN P S.get S.m mo o e/\runD P mos (S₁.put mo.dst e.v e.wr n) ((e.rd,e.wr.map (·.1))::fps) K:=by
   have run:∀S₁:St,S₁.get=S.get->S₁.m=S.m->gYes S.get mo.g->ev P S.get S.m S.n (fun v rd wr n=>runD P mos (S₁.put mo.dst v wr n) ((rd,wr.map (·.1))::fps) K) mo.op->
     ∃(S₁:St) (e:E) (n:Nat),S₁.get=S.get/\S₁.m=S.m/\zjN P S.get S.m mo o e/\runD P mos (S₁.put mo.dst e.v e.wr n) ((e.rd,e.wr.map (·.1))::fps) K:=fun S₁ eg em hy he=>by
    obtain⟨v,rd,wr,n',hs,hk⟩:=zD5 c1 he
    exact⟨S₁,⟨v,rd,wr⟩,n',eg,em,.inl ⟨hy,hs⟩,hk⟩
   have skip:∀S₁:St,S₁.get=S.get->S₁.m=S.m->gNo S.get mo.g->runD P mos (S₁.put mo.dst zcP [] S.n) (([],[])::fps) K->
     ∃(S₁:St) (e:E) (n:Nat),S₁.get=S.get/\S₁.m=S.m/\zjN P S.get S.m mo o e/\runD P mos (S₁.put mo.dst e.v e.wr n) ((e.rd,e.wr.map (·.1))::fps) K:=fun S₁ eg em hy hk=>
    ⟨S₁,⟨zcP,[],[]⟩,S.n,eg,em,.inr ⟨hy,rfl,rfl,rfl⟩,hk⟩
   simp only[runD]at h
   split at h
   ·rename_i hg;exact run S rfl rfl (by rw[hg];trivial) h
   ·rename_i t want hg
    split at h
    ·rename_i b et
     by_cases hb:b=want
     ·subst hb
      have h1:=h.1 rfl
      rw[gF et]at h1
      exact run _ (gF et) rfl (by rw[hg];exact et) h1
     ·have hb':b=(!want):=by cases b<;>cases want<;>simp_all
      exact skip _ (gF (by rw[et,hb'])) rfl (by rw[hg];exact .inl (by rw[et,hb'])) (h.2 hb')
    ·rename_i x et
     exact skip S rfl rfl (by rw[hg];exact .inr ⟨x,et⟩) h
    ·exact h.elim
  obtain⟨S₁,e,n,eg,em,h1,h2⟩:=main
  exact fin S₁ e n eg em h1 h2
def TrOK.nth{P:Program}:∀{mos:List MO} {os:List Oper} {es:List E} {get:Nat->AV} {m:Hp} {j:Nat} {o:Oper},TrOK P get m mos os es->os[j]?=some o->
  ∃mo e,mos[j]?=some mo/\es[j]?=some e/\zjN P (selF (fun i=>decide (i<j)) 0 get ((mos.zip es).map fun x=>dw x.1 x.2)) (selF (fun i=>decide (i<j)) 0 m (es.map (·.wr))) mo o e
 |[],[],[],_,_,j,o,_,h=>by simp at h
 |[],[],_::_,_,_,_,_,h,_=>by simp[TrOK]at h
 |[],_::_,_,_,_,_,_,h,_=>by simp[TrOK]at h
 |_::_,[],_,_,_,_,_,h,_=>by simp[TrOK]at h
 |_::_,_::_,[],_,_,_,_,h,_=>by simp[TrOK]at h
 | mo::mos,o'::os,e::es,get,m,0,o,h,ho=>by
  simp only[TrOK]at h
  simp at ho;subst ho
  have none:∀{β:Type} (l:List (List (Nat × β))) (i:Nat) (f:Nat->β),selF (fun i=>decide (i<0)) i f l=f:=by
   intro β l
   induction l with
   |nil=>intro i f;rfl
   |cons x l ih=>intro i f;simp only[selF];simpa using ih _ _
  refine⟨mo,e,rfl,rfl,?_⟩
  rw[none,none]
  exact h.1
 | mo::mos,o'::os,e::es,get,m,j+1,o,h,ho=>by
  simp only[TrOK]at h
  obtain⟨mo',e',h1,h2,h3⟩:=TrOK.nth h.2 (by simpa using ho)
  have shift:∀{β:Type} (l:List (List (Nat × β))) (i:Nat) (f:Nat->β),selF (fun i=>decide (i<j+1)) (i+1) f l=selF (fun i=>decide (i<j)) i f l:=by
   intro β l
   induction l with
   |nil=>intro i f;rfl
   |cons x l ih=>intro i f;simp only[selF];rw[ih];simp
  refine⟨mo',e',by simpa using h1,by simpa using h2,?_⟩
  simp only[List.zip_cons_cons,List.map_cons,selF,Nat.zero_lt_succ,decide_true,if_true]
  rw[shift,shift,<-zrc,<-zpM]
  exact h3
def lst(l:Array Bool):Nat->Bool:=fun i=>l.getD i false
def zrd{l:Array Bool}{j q:Nat}(hj:j<l.size):lst (l.setIfInBounds j true) q=(lst l q||q==j):=by
 unfold lst
 by_cases h:q=j
 ·subst h;simp[aZ,hj]
 ·have:(q==j)=false:=by simpa using h
  rw[this,Bool.or_false]
  simp[aZ,bQ (Ne.symm h)]
def cnt(l:Array Bool):Nat:=l.toList.countP (fun b=>b)
def zEp{l:Array Bool}{j:Nat}(hj:j<l.size)(h:lst l j=false):cnt (l.setIfInBounds j true)=cnt l+1:=by
 unfold cnt
 have key:∀(l:List Bool) (j:Nat),j<l.length->l.getD j false=false->(l.set j true).countP (fun b=>b)=l.countP (fun b=>b)+1:=by
  intro l
  induction l with
  |nil=>intro j h;simp at h
  | cons b l ih=>
   intro j hj hb
   cases j with
   |zero=>simp at hb;subst hb;simp
   |succ j=>
    simp only[List.set_cons_succ,List.countP_cons]
    rw[ih j (by simpa using hj) (by simpa using hb)]
    omega
 rw[Array.toList_setIfInBounds]
 refine key l.toList j (by simpa using hj) ?_
 unfold lst at h
 rw[aZ]at h
 simpa[aH]using h
def zCh{l:Array Bool}(h:cnt l=l.size):∀i,i<l.size->lst l i=true:=by
 intro i hi
 unfold cnt at h
 have h2:l.toList.countP (fun b=>b)=l.toList.length:=by simpa using h
 have:=List.countP_eq_length.1 h2
 have h3:=this l[i] (by simp)
 unfold lst
 simp[aZ,hi,h3]
section
variable {P:Program} {c:Ctx}
def zrV{ops:Array Oper}{l:Array Bool}{i:Nat}:i∈Region.ready .any ops l->i<ops.size/\l.getD i true=false/\∃o,ops[i]?=some o/\∀e,e∈o.after->Region.binds .any e=true->lst l e.on=true:=by
 intro h
 unfold Region.ready at h
 rw[bC]at h
 obtain⟨h1,h2⟩:=h
 have hi:i<ops.size:=by simpa using h1
 simp only[aD,bE]at h2
 refine⟨hi,h2.1,ops[i],bH hi,fun e he hb=>?_⟩
 have h3:=h2.2
 rw[bH hi]at h3
 simp only[Option.map_some,Option.getD_some,Array.all_eq_true']at h3
 have:=h3 e he
 rw[hb]at this
 simpa[lst]using this
def zCi{ops:Array Oper}{l:Array Bool}{i:Nat}{o:Oper}(hi:ops[i]?=some o)(hl:l.getD i true=false)(h:∀e,e∈o.after->Region.binds .any e=true->lst l e.on=true):i∈Region.ready .any ops l:=by
 unfold Region.ready
 rw[bC]
 have hlt:i<ops.size:=by
  rcases aW i ops.size with h1|h1
  ·exact h1
  ·rw[aj h1]at hi;cases hi
 refine⟨by simpa using hlt,?_⟩
 simp only[hl,Bool.not_false,Bool.true_and,hi,Option.map_some,Option.getD_some,Array.all_eq_true']
 intro e he
 cases hb:Region.binds .any e with
 |false=>rfl
 |true=>simpa[lst]using h e he hb
def zoL{l:Array Bool}{i:Nat}(hi:i<l.size):l.getD i true=lst l i:=by
 unfold lst;simp[aZ,hi]
def zpN{ops:Array Oper}{bef:List Nat}(h:zrb ops bef=true){j:Nat}{o:Oper}(ho:ops[j]?=some o):
  (∀e,e∈o.after->Region.binds .any e=true->e.on<j)/\∀i,i<ops.size->(bef.getD j 0).testBit i=true->∃e,e∈o.after/\Region.binds .any e=true/\(e.on=i\/(bef.getD e.on 0).testBit i=true):=by
 have hlt:j<ops.size:=by
  rcases aW j ops.size with h1|h1
  ·exact h1
  ·rw[aj h1]at ho;cases ho
 have:=aa.1 h j (by simpa using hlt)
 rw[ho]at this
 simp only[aD,Array.all_eq_true',aa,List.mem_range]at this
 refine⟨fun e he hb=>?_,fun i hi hb=>?_⟩
 ·have h1:=this.1 e he
  rw[hb]at h1
  simpa using h1
 ·have h2:=this.2 i hi
  rw[hb]at h2
  simp only[Bool.not_true,eP,Array.any_eq_true',aD,cu,aY]at h2
  obtain⟨e,he,h3,h4⟩:=h2
  exact⟨e,he,h3,h4⟩
def zme{ops:Array Oper}{bef:List Nat}(h:ztT ops bef=true){i j:Nat}{a b:Oper}(hij:i<j)(ha:ops[i]?=some a)(hb:ops[j]?=some b):(bef.getD j 0).testBit i=true\/a.apart ops b=true:=by
 have hlt:j<ops.size:=by
  rcases aW j ops.size with h1|h1
  ·exact h1
  ·rw[aj h1]at hb;cases hb
 have h1:=aa.1 h j (by simpa using hlt)
 have h2:=aa.1 h1 i (by simpa using hij)
 rw[ha,hb]at h2
 simpa using h2
def zoM{bef:List Nat}{fps:List FP}(h:zpL bef fps=true){i j:Nat}{a b:FP}(hij:i<j)(ha:fps[i]?=some a)(hb:fps[j]?=some b):(bef.getD j 0).testBit i=true\/touch a b=false:=by
 have hlt:j<fps.length:=by
  rcases aW j fps.length with h1|h1
  ·exact h1
  ·rw[aR h1]at hb;cases hb
 have h1:=aa.1 h j (by simpa using hlt)
 have h2:=aa.1 h1 i (by simpa using hij)
 rw[aH (l:=fps),aH (l:=fps),ha,hb]at h2
 simpa using h2
def zkE{a b:FP}(h:touch a b=false){x:Nat}:(x∈a.2->x∉b.1/\x∉b.2)/\(x∈b.2->x∉a.1):=by
 unfold touch at h
 simp only[Bool.or_eq_false_iff,dE,dO,cu,dP]at h
 exact⟨fun hx=>h.1 x hx,fun hx=>by simpa using h.2 x hx⟩
def zmf{N:Nat}{ops:Array Oper}:∀{mos:List MO} {os:List Oper} {j:Nat} {mo:MO} {o:Oper},zcd P N ops mos os=true->mos[j]?=some mo->os[j]?=some o->znK P N ops mo o=true
 |[],_,_,_,_,_,h,_=>by simp at h
 |_::_,[],_,_,_,_,_,h=>by simp at h
 |mo::mos,o::os,0,mo',o',h,h1,h2=>by
  simp at h1 h2;subst h1 h2
  simp only[zcd,aD]at h
  exact h.1
 |mo::mos,o::os,j+1,mo',o',h,h1,h2=>by
  simp only[zcd,aD]at h
  exact zmf h.2 (by simpa using h1) (by simpa using h2)
def zkF{N:Nat}{ops:Array Oper}:∀{mos:List MO} {os:List Oper},zcd P N ops mos os=true->mos.length=os.length
 |[],[],_=>rfl
 |[],_::_,h=>by simp[zcd]at h
 |_::_,[],h=>by simp[zcd]at h
 |_::_,_::_,h=>by
  simp only[zcd,aD]at h
  simp[zkF h.2]
def TrOK.len:∀{mos:List MO} {os:List Oper} {es:List E} {get:Nat->AV} {m:Hp},TrOK P get m mos os es->es.length=os.length
 |[],[],[],_,_,_=>rfl
 |[],[],_::_,_,_,h=>by simp[TrOK]at h
 |[],_::_,_,_,_,h=>by simp[TrOK]at h
 |_::_,[],_,_,_,h=>by simp[TrOK]at h
 |_::_,_::_,[],_,_,h=>by simp[TrOK]at h
 |_::_,_::_,_::_,_,_,h=>by simp only[TrOK]at h;simp[TrOK.len h.2]
def zAc{ops:Array Oper}{bef:List Nat}{mos:List MO}{es:List E}{get:Nat->AV}{m:Hp}{Q:Exit->Act->World->Prop}(hc:zcd P c.N ops mos ops.toList=true)(ht:TrOK P get m mos ops.toList es)
  (hE:zrb ops bef=true) (hT:ztT ops bef=true) (hF:zpL bef (es.map fun e=>(e.rd,e.wr.map (·.1)))=true)
  (hQ:∀a w,Rel P c (selF (fun _=>true) 0 get ((mos.zip es).map fun x=>dw x.1 x.2)) (selF (fun _=>true) 0 m (es.map (·.wr))) a w->Q .normal a w):
  ∀(fuel:Nat) (l:Array Bool) (a:Act) (w:World),l.size=ops.size->cnt l+fuel=ops.size->(∀j i,lst l j=true->(bef.getD j 0).testBit i=true->i<ops.size->lst l i=true)->
   Rel P c (selF (lst l) 0 get ((mos.zip es).map fun x=>dw x.1 x.2)) (selF (lst l) 0 m (es.map (·.wr))) a w->wpAny P .any ops Q fuel l a w:=by
 have len1:=zkF hc
 have len2:=ht.len
 have len3:ops.toList.length=ops.size:=by simp
 -- when all have come up
 have done:∀(l:Array Bool) (a:Act) (w:World),(∀i,i<ops.size->lst l i=true)->Rel P c (selF (lst l) 0 get ((mos.zip es).map fun x=>dw x.1 x.2)) (selF (lst l) 0 m (es.map (·.wr))) a w->Q .normal a w:=by
  intro l a w hl r
  refine hQ a w ?_
  have e1:selF (lst l) 0 get ((mos.zip es).map fun x=>dw x.1 x.2)=selF (fun _=>true) 0 get ((mos.zip es).map fun x=>dw x.1 x.2):=by
   funext k
   refine zdi _ 0 _ _ _ _ (fun q x hq _=>?_) rfl
   have hlt:q<((mos.zip es).map fun x=>dw x.1 x.2).length:=by
    rcases aW q ((mos.zip es).map fun x=>dw x.1 x.2).length with h|h
    ·exact h
    ·rw[aR h]at hq;cases hq
   simp only[aU,List.length_zip]at hlt
   rw[Nat.zero_add]
   exact hl q (by omega)
  have e2:selF (lst l) 0 m (es.map (·.wr))=selF (fun _=>true) 0 m (es.map (·.wr)):=by
   funext k
   refine zdi _ 0 _ _ _ _ (fun q x hq _=>?_) rfl
   have hlt:q<(es.map (·.wr)).length:=by
    rcases aW q (es.map (·.wr)).length with h|h
    ·exact h
    ·rw[aR h]at hq;cases hq
   simp only[aU]at hlt
   rw[Nat.zero_add]
   exact hl q (by omega)
  rw[<-e1,<-e2]
  exact r
 have allOf:∀(l:Array Bool),l.size=ops.size->Region.ready .any ops l=[]->∀i,i<ops.size->lst l i=true:=by
  intro l hs hr i
  induction i using Nat.strongRecOn with
  | _ i ih=>
   intro hi
   cases hli:lst l i with
   |true=>rfl
   | false=>
    have hmem:i∈Region.ready .any ops l:=by
     refine zCi (bH hi) (by rw[zoL (by omega)];exact hli) fun e he hb=>?_
     have h1:=(zpN hE (bH hi)).1 e he hb
     exact ih e.on h1 (by omega)
    rw[hr]at hmem
    cases hmem
 intro fuel
 induction fuel with
 | zero=>
  intro l a w hs hcnt hcl r
  have hall:=zCh (l:=l) (by omega)
  refine⟨?_,done l a w (fun i hi=>hall i (by omega)) r⟩
  cases hr:Region.ready .any ops l with
  |nil=>rfl
  |cons i t=>
   have:=zrV (by rw[hr];exact List.mem_cons_self:i∈Region.ready .any ops l)
   rw[zoL (by omega),hall i (by omega)]at this
   exact absurd this.2.1 (by simp)
 | succ fuel ih=>
  intro l a w hs hcnt hcl r
  refine⟨fun hr=>done l a w (allOf l hs hr) r,fun j hj=>?_⟩
  obtain⟨hjs,hjl,o,ho,hedge⟩:=zrV hj
  rw[zoL (by omega)]at hjl
  have hot:ops.toList[j]?=some o:=by simpa using ho
  obtain⟨mo,e,hmo,he,hstep⟩:=ht.nth hot
  have hc0:=zmf hc hmo hot
  simp only[znK,aD,aY]at hc0
  obtain⟨⟨⟨c1,c2⟩,c3⟩,c4⟩:=hc0
  have hd:∀d,mo.dst=some d->d<c.N:=fun d hd=>by rw[hd]at c3;simpa using c3
  -- what must come before has come
  have pre:∀i,i<ops.size->(bef.getD j 0).testBit i=true->lst l i=true:=by
   intro i hi hb
   obtain⟨ed,h1,h2,h3⟩:=(zpN hE ho).2 i hi hb
   have h4:=hedge ed h1 h2
   rcases h3 with h3|h3
   ·rw[<-h3];exact h4
   ·exact hcl ed.on i h4 h3 hi
  have post:∀i,(bef.getD i 0).testBit j=true->lst l i=false:=by
   intro i hb
   cases hli:lst l i with
   |false=>rfl
   |true=>have:=hcl i j hli hb hjs;rw[hjl]at this;cases this
  -- the row of temporaries that operation q writes
  have rowd:∀(q:Nat) (x:List (Nat × AV)),((mos.zip es).map fun x=>dw x.1 x.2)[q]?=some x->∃oq:Oper,ops[q]?=some oq/\∀k,(∃y,y∈x/\y.1=k)->oq.dst=some k:=by
   intro q x hq
   simp only[List.getElem?_map,aV]at hq
   obtain⟨z,hz,hx⟩:=hq
   have hlt:q<(mos.zip es).length:=by
    rcases aW q (mos.zip es).length with h|h
    ·exact h
    ·rw[aR h]at hz;cases hz
   simp only[List.length_zip]at hlt
   have hqs:q<ops.size:=by omega
   refine⟨ops[q],bH hqs,fun k hk=>?_⟩
   have hzm:mos[q]?=some z.1:=by
    have:=List.getElem?_zip_eq_some.1 hz
    exact this.1
   have hcq:=zmf hc hzm (show ops.toList[q]?=some ops[q] by simp[hqs])
   simp only[znK,aD,aY]at hcq
   rw[<-hcq.1.1.2]
   obtain⟨y,hy,hk⟩:=hk
   rw[<-hx]at hy
   unfold dw at hy
   split at hy
   ·rename_i d hdz
    simp only[aL]at hy
    subst hy
    rw[hdz];simp only at hk;rw[hk]
   ·cases hy
  have rowb:∀(q:Nat) (x:List (Nat × Blk)),(es.map (·.wr))[q]?=some x->∃fq:FP,(es.map fun e=>(e.rd,e.wr.map (·.1)))[q]?=some fq/\∀k,(∃y,y∈x/\y.1=k)->k∈fq.2:=by
   intro q x hq
   simp only[List.getElem?_map,aV]at hq
   obtain⟨z,hz,hx⟩:=hq
   refine⟨(z.rd,z.wr.map (·.1)),by simp[List.getElem?_map,hz],fun k hk=>?_⟩
   obtain⟨y,hy,hk⟩:=hk
   rw[<-hx]at hy
   exact ai.2 ⟨y,hy,hk⟩
  have hfj:(es.map fun e=>(e.rd,e.wr.map (·.1)))[j]?=some (e.rd,e.wr.map (·.1)):=by simp[List.getElem?_map,he]
  -- temporaries that it reads are as in the text
  have agT:∀k,k∈o.looksAt ops->selF (lst l) 0 get ((mos.zip es).map fun x=>dw x.1 x.2) k=selF (fun i=>decide (i<j)) 0 get ((mos.zip es).map fun x=>dw x.1 x.2) k:=by
   intro k hk
   refine zdi _ 0 _ _ _ _ (fun q x hq hx=>?_) rfl
   rw[Nat.zero_add]
   obtain⟨oq,hoq,hdq⟩:=rowd q x hq
   have hdk:=hdq k hx
   have hqs:q<ops.size:=by
    rcases aW q ops.size with h1|h1
    ·exact h1
    ·rw[aj h1]at hoq;cases hoq
   rcases Nat.lt_trichotomy q j with h|h|h
   ·rw[fA h]
    rcases zme hT h hoq ho with hb|hap
    ·exact pre q hqs hb
    ·exact absurd hk ((Oper.apart_spec hap).1 k hdk)
   ·subst h;rw[hjl];simp
   ·rw[eY (by omega)]
    rcases zme hT h ho hoq with hb|hap
    ·exact post q hb
    ·exact absurd hk ((Oper.apart_spec hap).2.2 k hdk)
  have agB:∀k,(k∈e.rd\/k∈e.wr.map (·.1))->selF (lst l) 0 m (es.map (·.wr)) k=selF (fun i=>decide (i<j)) 0 m (es.map (·.wr)) k:=by
   intro k hk
   refine zdi _ 0 _ _ _ _ (fun q x hq hx=>?_) rfl
   rw[Nat.zero_add]
   obtain⟨fq,hfq,hwq⟩:=rowb q x hq
   have hkq:=hwq k hx
   have hqs:q<ops.size:=by
    have:q<(es.map fun e=>(e.rd,e.wr.map (·.1))).length:=by
     rcases aW q (es.map fun e=>(e.rd,e.wr.map (·.1))).length with h1|h1
     ·exact h1
     ·rw[aR h1]at hfq;cases hfq
    simp only[aU]at this
    omega
   rcases Nat.lt_trichotomy q j with h|h|h
   ·rw[fA h]
    rcases zoM hF h hfq hfj with hb|hap
    ·exact pre q hqs hb
    ·have:=(zkE hap (x:=k)).1 hkq
     rcases hk with hk|hk
     ·exact absurd hk this.1
     ·exact absurd hk this.2
   ·subst h;rw[hjl];simp
   ·rw[eY (by omega)]
    rcases zoM hF h hfj hfq with hb|hap
    ·exact post q hb
    ·rcases hk with hk|hk
     ·exact absurd hk ((zkE hap (x:=k)).2 hkq)
     ·exact absurd hkq ((zkE hap (x:=k)).1 hk).2
  have hjsz:j<l.size:=by omega
  -- what has come up with it
  have insT:selF (lst (l.setIfInBounds j true)) 0 get ((mos.zip es).map fun x=>dw x.1 x.2)=updO (selF (lst l) 0 get ((mos.zip es).map fun x=>dw x.1 x.2)) mo.dst e.v:=by
   funext k
   rw[zrc]
   refine zju _ 0 j _ _ _ (dw mo e) ?_ (fun q=>by rw[Nat.zero_add];exact zrd hjsz) (by rw[Nat.zero_add];exact hjl) (fun q y hq hy hlq hz z hz'=>?_)
   ·simp only[List.getElem?_map,aV]
    exact⟨(mo,e),List.getElem?_zip_eq_some.2 ⟨hmo,he⟩,rfl⟩
   ·rw[Nat.zero_add]at hlq
    obtain⟨oq,hoq,hdq⟩:=rowd q y hy
    intro hzk
    have h1:=hdq k ⟨z,hz',hzk⟩
    have h2:o.dst=some k:=by
     rw[<-c2]
     obtain⟨z0,hz0,hz0k⟩:=hz
     unfold dw at hz0
     split at hz0
     ·rename_i d hdz
      simp only[aL]at hz0
      subst hz0
      rw[hdz];simp only at hz0k;rw[hz0k]
     ·cases hz0
    rcases zme hT hq ho hoq with hb|hap
    ·rw[post q hb]at hlq;cases hlq
    ·exact(Oper.apart_spec hap).2.1 k h2 h1
  have insB:selF (lst (l.setIfInBounds j true)) 0 m (es.map (·.wr))=wrs (selF (lst l) 0 m (es.map (·.wr))) e.wr:=by
   funext k
   rw[zpM]
   refine zju _ 0 j _ _ _ e.wr ?_ (fun q=>by rw[Nat.zero_add];exact zrd hjsz) (by rw[Nat.zero_add];exact hjl) (fun q y hq hy hlq hz z hz'=>?_)
   ·simp[List.getElem?_map,he]
   ·rw[Nat.zero_add]at hlq
    obtain⟨fq,hfq,hwq⟩:=rowb q y hy
    intro hzk
    have h1:=hwq k ⟨z,hz',hzk⟩
    rcases zoM hF hq hfj hfq with hb|hap
    ·rw[post q hb]at hlq;cases hlq
    ·obtain⟨z0,hz0,hz0k⟩:=hz
     exact((zkE hap (x:=k)).1 (ai.2 ⟨z0,hz0,hz0k⟩)).2 h1
  have next:∀(a':Act) (w':World),Rel P c (updO (selF (lst l) 0 get ((mos.zip es).map fun x=>dw x.1 x.2)) mo.dst e.v) (wrs (selF (lst l) 0 m (es.map (·.wr))) e.wr) a' w'->wpAny P .any ops Q fuel (l.setIfInBounds j true) a' w':=by
   intro a' w' r'
   refine ih _ a' w' (by simpa using hs) (by rw[zEp hjsz hjl];omega) (fun q i hq hb hi=>?_) (by rw[insT,insB];exact r')
   rw[zrd hjsz]at hq⊢
   simp only[cu,aY]at hq⊢
   rcases hq with hq|hq
   ·exact .inl (hcl q i hq hb hi)
   ·subst hq;exact .inl (pre i hi hb)
  obtain⟨ph,ρ,H,S0,e0,hg⟩:=r.ex
  have looks:∀k,Operand.tmp k∈o.op.operands->k∈o.looksAt ops:=fun k hk=>List.mem_append_left _ (List.mem_filterMap.2 ⟨.tmp k,by simpa using hk,rfl⟩)
  have guardT:∀t b,mo.g=some (t,b)->t∈o.looksAt ops:=by
   intro t b hgm
   rw[hgm]at c4
   unfold chkG at c4
   split at c4
   ·rename_i e' _;cases e'
   ·rename_i t' b' j' b'' e' hgo
    cases e'
    simp only[aD,aY]at c4
    refine List.mem_append_right _ ?_
    rw[hgo]
    simp only[c4.2]
    simp
   ·cases c4
  unfold wpOp
  rw[ho]
  dsimp only
  rcases hstep with⟨hy,hsem⟩|⟨hn,hv,hrd,hwr⟩
  ·rw[aC (zk7 c4 (fun t b hgm=>by
    have:=hg t
    rw[agT t (guardT t b hgm)]at this
    rw[hgm]at hy
    simp only[gYes]at hy
    rw[hy]at this
    simpa only[RepV,RepC,RepD]using this))]
   refine .inl (hsem (selF (lst l) 0 m (es.map (·.wr))) (fun b hb=>agB b (.inl hb)) (fun x hx=>agB x.1 (.inr (ai.2 ⟨x,hx,rfl⟩))) ph ρ w a H (r.gnd.mono S0.hle)
    (fun k hk=>by rw[<-agT k (looks k hk)];exact hg k) _ _ fun h' ρ' w' vC st K' e1 rv=>?_)
   rw[<-c2]
   exact next _ _ (zvV r.gnd r.defers r.size hd S0 e0 hg st K' e1 rv)
  ·cases hgm:mo.g with
   |none=>rw[hgm]at hn;exact hn.elim
   | some p=>
    obtain⟨t,b⟩:=p
    rw[hgm]at hn c4
    have:=hg t
    rw[agT t (guardT t b hgm)]at this
    rw[aB (by
     rw[znb c4 (by
      rcases hn with hn|⟨x,hn⟩
      ·rw[hn]at this;exact .inl (by simpa only[RepV,RepC,RepD]using this)
      ·rw[hn]at this;exact .inr ⟨x,by simpa only[RepV,RepC,RepD]using this⟩)]
     simp)]
    rw[<-c2]
    refine next _ _ ?_
    rw[hv,hwr]
    exact zvW r hd
end
end Go.Abs
namespace Go.Abs
inductive MC where
 |skip
 |reg (os:List MO)
 |regd (bef:List Nat) (os:List MO)
 |seq (a b:MC)
 |cond (x:MX) (a b:MC)
 |block (id:Nat) (b:MC)
 |loop (b:MC)
 |exit (id:Nat)
 |ret
 |fzq (a:MC)
 |owq (a:MC)
def chkC(P:Program)(N:Nat):MC->Code->Bool
 |.skip,.skip=>true
 |.reg os,.region _ ops d=> !d&&zcd P N ops os ops.toList
 |.regd bef os,.region _ ops d=>d&&zcd P N ops os ops.toList&&zrb ops bef&&ztT ops bef
 |.seq a b,.seq a' b'=>chkC P N a a'&&chkC P N b b'
 |.cond x a b,.cond o a' b'=>chkX x o&&chkC P N a a'&&chkC P N b b'
 |.block i b,.block i' b'=>i==i'&&chkC P N b b'
 |.loop b,.loop b'=>chkC P N b b'
 |.exit i,.exit i'=>i==i'
 |.ret,.ret=>true
 |.fzq a,c=>chkC P N a c
 |.owq a,c=>chkC P N a c
 |_,_=>false
def AW(P:Program)(c:Ctx)(mc:MC)(Q:Exit->St->Prop)(S:St):Prop:=
 ∀code:Code,chkC P c.N mc code=true->∀(a:Act) (w:World),Rel P c S.get S.m a w->code.wp P (fun e a' w'=>∃S':St,Rel P c S'.get S'.m a' w'/\Q e S') a w
def zf2(K:St->Prop)(Q:Exit->St->Prop):Exit->St->Prop
 |.normal,S=>K S
 |e,S=>Q e S
def ziz(id:Nat)(Q:Exit->St->Prop):Exit->St->Prop
 |.exit i,S=>if i=id then Q .normal S else Q (.exit i) S
 |e,S=>Q e S
section
variable {P:Program} {c:Ctx} {Q:Exit->St->Prop} {S:St}
def AW.mono{mc:MC}{Q':Exit->St->Prop}(h:AW P c mc Q S)(hq:∀e S,Q e S->Q' e S):AW P c mc Q' S:=fun code hc a w r=>
 wp_mono (h code hc a w r) fun e a' w' ⟨S',r',q⟩=>⟨S',r',hq e S' q⟩
def AW.skip(h:Q .normal S):AW P c .skip Q S:=by
 intro code hc a w r
 cases code<;>simp[chkC]at hc
 exact wp_skip ⟨S,r,h⟩
def AW.exit{id:Nat}(h:Q (.exit id) S):AW P c (.exit id) Q S:=by
 intro code hc a w r
 cases code<;>simp[chkC]at hc
 subst hc
 exact wp_exit ⟨S,r,h⟩
def AW.ret(h:Q .ret S):AW P c .ret Q S:=by
 intro code hc a w r
 cases code<;>simp[chkC]at hc
 exact wp_ret ⟨S,r,h⟩
def AW.seq{x y:MC}(h:AW P c x (zf2 (AW P c y Q) Q) S):AW P c (.seq x y) Q S:=by
 intro code hc a w r
 cases code with
 |seq x' y'=>
  simp only[chkC,aD]at hc
  refine wp_seq (wp_mono (h x' hc.1 a w r) fun e a' w' ⟨S',r',q⟩=>?_)
  cases e with
  |normal=>exact q y' hc.2 a' w' r'
  |_=>exact⟨S',r',q⟩
 |_=>simp[chkC]at hc
def AW.cond{x:MX}{a b:MC}{t:Bool}(e:X S.get x=.c (.d (.bool t)))(h1:t=true->AW P c a Q S)(h2:t=false->AW P c b Q S):AW P c (.cond x a b) Q S:=by
 intro code hc ac w r
 cases code with
 |cond o a' b'=>
  simp only[chkC,aD]at hc
  obtain⟨ph,ρ,H,S0,e0,hg⟩:=r.ex
  have r1:=zaq hc.1.1 (ph:=ph) (ρ:=ρ) (get:=S.get) (a:=ac) fun k _=>hg k
  rw[e]at r1
  simp only[RepV,RepC,RepD]at r1
  exact wp_cond_split r1 (fun ht=>h1 ht a' hc.1.2 ac w r) (fun ht=>h2 ht b' hc.2 ac w r)
 |_=>simp[chkC]at hc
def AW.condU{x:MX}{a b:MC}{q:Value->Prop}(e:X S.get x=.c (.op q))(hq:∀v,q v->zhX v)(h1:AW P c a Q S)(h2:AW P c b Q S):AW P c (.cond x a b) Q S:=by
 intro code hc ac w r
 cases code with
 |cond o a' b'=>
  simp only[chkC,aD]at hc
  obtain⟨ph,ρ,H,S0,e0,hg⟩:=r.ex
  have r1:=zaq hc.1.1 (ph:=ph) (ρ:=ρ) (get:=S.get) (a:=ac) fun k _=>hg k
  rw[e]at r1
  simp only[RepV,RepC]at r1
  obtain⟨t,r1⟩:=hq _ r1
  exact wp_cond_split r1 (fun ht=>h1 a' hc.1.2 ac w r) (fun ht=>h2 b' hc.2 ac w r)
 |_=>simp[chkC]at hc
def AW.block{id:Nat}{b:MC}(h:AW P c b (ziz id Q) S):AW P c (.block id b) Q S:=by
 intro code hc a w r
 cases code with
 | block id' b'=>
  simp only[chkC,aD,aY]at hc
  obtain⟨h1,h2⟩:=hc
  subst h1
  refine wp_block (wp_mono (h b' h2 a w r) fun e a' w' ⟨S',r',q⟩=>?_)
  cases e with
  |exit i=>
   simp only[ziz]at q
   simp only[Exit.inBlock]
   split
   ·rename_i hh;rw[aC hh]at q;exact⟨S',r',q⟩
   ·rename_i hh;rw[aB hh]at q;exact⟨S',r',q⟩
  |_=>exact⟨S',r',q⟩
 |_=>simp[chkC]at hc
def AW.reg{os:List MO}(h:runO P os S (fun S'=>Q .normal S')):AW P c (.reg os) Q S:=by
 intro code hc a w r
 cases code with
 |region id ops d=>
  simp only[chkC,aD,bE]at hc
  obtain⟨h1,h2⟩:=hc
  subst h1
  refine wp_region ?_
  have hl:=zkF h2
  have:=zrF (Q:=fun e a' w'=>∃S':St,Rel P c S'.get S'.m a' w'/\Q e S') (K:=fun S'=>Q .normal S') (fun S a w r k=>⟨S,r,k⟩) (i:=0) h2 (fun j o hj=>by simpa using hj) h r
  rw[dD]
  simpa using this
 |_=>simp[chkC]at hc
def AW.regd{bef:List Nat}{os:List MO}(hm:P.follows .mixedOrders=true)(h:runD P os S [] (fun S' fps=>zpL bef fps=true/\Q .normal S')):AW P c (.regd bef os) Q S:=by
 intro code hc a w r
 cases code with
 | region id ops d=>
  simp only[chkC,aD]at hc
  obtain⟨⟨⟨h1,h2⟩,h3⟩,h4⟩:=hc
  subst h1
  obtain⟨es,S',t1,t2,t3,t4⟩:=zxd h2 h
  simp only[List.reverse_nil,List.nil_append]at t4
  refine wp_region_any hm ?_
  have none:∀{β:Type} (l:List (List (Nat × β))) (i:Nat) (f:Nat->β),selF (lst (Array.replicate ops.size false)) i f l=f:=by
   intro β l
   induction l with
   |nil=>intro i f;rfl
   | cons x l ih=>
    intro i f
    have:lst (Array.replicate ops.size false) i=false:=by
     unfold lst
     simp only[aZ,dG]
     split<;>rfl
    simp only[selF,this]
    exact ih _ _
  refine zAc h2 t1 h3 h4 t4.1 (fun a w r=>⟨S',by rw[t2,t3];exact r,t4.2⟩) ops.size _ a _ (by simp) ?_ (fun j i hj _ _=>?_) ?_
  ·have:cnt (Array.replicate ops.size false)=0:=by
    unfold cnt
    simp
   omega
  ·unfold lst at hj
   simp only[aZ,dG]at hj
   split at hj<;>simp at hj
  ·rw[none,none]
   obtain⟨ph,ρ,H,S0,e0,hg⟩:=r.ex
   exact⟨r.gnd,r.defers,r.size,ph,ρ,H,S0,⟨e0.1,e0.2.1,e0.2.2⟩,hg⟩
 |_=>simp[chkC]at hc
def hd(t:List (Nat × AV))(bs:List Blk):St:=⟨t,hpOf bs,bs.length⟩
def tAll(S:St)(l:List Nat):List (Nat × AV)->Prop
 |[]=>True
 |(k,v)::t=>(S.get k=v.ren (fOf l)/\v.lt l.length=true)/\tAll S l t
def mAll(S:St)(l:List Nat):List Nat->List Blk->Prop
 |[],[]=>True
 |j::js,b::bs=>(S.m j=b.ren (fOf l)/\b.lt l.length=true)/\mAll S l js bs
 |_,_=>False
def Match(l:List Nat)(S:St)(t:List (Nat × AV))(bs:List Blk):Prop:=l.Nodup/\tAll S l t/\mAll S l l bs
def zsh{S:St}{l:List Nat}:∀{t:List (Nat × AV)},tAll S l t->∀k,look t k=.c (.d .any)\/(S.get k=(look t k).ren (fOf l)/\(look t k).lt l.length=true)
 |[],_,k=>.inl rfl
 |(j,v)::t,h,k=>by
  simp only[tAll]at h
  simp only[look]
  split
  ·rename_i e;subst e;exact .inr h.1
  ·exact zsh h.2 k
def zxr{S:St}{l:List Nat}:∀{js:List Nat} {bs:List Blk},mAll S l js bs->js.length=bs.length/\∀i,i<js.length->S.m (js.getD i 0)=(bs.getD i .non).ren (fOf l)/\(bs.getD i .non).lt l.length=true
 |[],[],_=>⟨rfl,fun i hi=>by simp at hi⟩
 |[],_::_,h=>by simp[mAll]at h
 |_::_,[],h=>by simp[mAll]at h
 |j::js,b::bs,h=>by
  simp only[mAll]at h
  obtain⟨h1,h2⟩:=zxr h.2
  refine⟨by simp[h1],fun i hi=>?_⟩
  cases i with
  |zero=>simpa using h.1
  |succ i=>simpa using h2 i (by simpa using hi)
def Ctx.pure(_:Ctx):Prop:=True
def Rel.view(hp:c.pure){l:List Nat}{S:St}{t:List (Nat × AV)}{bs:List Blk}{a:Act}{w:World}(hm:Match l S t bs)(r:Rel P c S.get S.m a w):Rel P c (hd t bs).get (hd t bs).m a w:=by
 obtain⟨hnd,ht,hb⟩:=hm
 obtain⟨hlen,hb⟩:=zxr hb
 obtain⟨ph,ρ,H,S0,e0,hg⟩:=r.ex
 have at_:∀b,b<l.length->S.m (fOf l b)=(hpOf bs b).ren (fOf l)/\(hpOf bs b).lt l.length=true:=fun b hbl=>hb b hbl
 have inj:∀b c,b<l.length->c<l.length->fOf l b=fOf l c->b=c:=by
  intro b c h1 h2 e
  unfold fOf at e
  rw[aH,aH,aA h1,aA h2]at e
  simp only[Option.getD_some]at e
  exact(List.getElem?_inj h1 hnd).1 (by rw[aA h1,aA h2,e])
 have beyond:∀b,¬b<l.length->hpOf bs b=.non:=by
  intro b hb'
  unfold hpOf
  rw[aH,aR (by omega)]
  rfl
 have rs:∀{b:Nat} {p:Nat × Nat},rmR (fOf l) l.length ρ b=some p->b<l.length/\ρ (fOf l b)=some p:=by
  intro b p h
  unfold rmR at h
  split at h
  ·exact⟨by assumption,h⟩
  ·cases h
 refine⟨r.gnd,r.defers,r.size,ph,rmR (fOf l) l.length ρ,⟨H.pers,?_,?_,?_,?_⟩,⟨S0.hle,S0.hlow,S0.size,S0.frame,?_⟩,e0,fun k=>?_⟩
 ·intro b
  show hpOf bs b=.non↔_
  unfold rmR
  by_cases hbl:b<l.length
  ·rw[aC hbl,<-H.dom,(at_ b hbl).1]
   cases hpOf bs b<;>simp[Blk.ren]
  ·rw[aB hbl];simp[beyond b hbl]
 ·intro b p hp'
  obtain⟨h1,h2⟩:=rs hp'
  have:=H.own _ p h2
  rw[(at_ b h1).1]at this
  exact zaH.ren (at_ b h1).2 this
 ·intro b c' p q h1 h2 hr hs e
  obtain⟨g1,g2⟩:=rs h1
  obtain⟨g3,g4⟩:=rs h2
  refine inj b c' g1 g3 (H.inj _ _ p q g2 g4 ?_ ?_ e)
  ·rw[(at_ b g1).1];exact Real.ren.2 hr
  ·rw[(at_ c' g3).1];exact Real.ren.2 hs
 ·intro b p h1 hr
  obtain⟨g1,g2⟩:=rs h1
  exact H.sep _ p g2 (by rw[(at_ b g1).1];exact Real.ren.2 hr)
 ·intro b p h1 hr
  obtain⟨g1,g2⟩:=rs h1
  exact S0.own _ p g2 (by rw[(at_ b g1).1];exact Real.ren.2 hr)
 ·have rk:=hg k
  show RepV ph (rmR (fOf l) l.length ρ) (look t k) _
  rcases zsh ht k with h1|⟨h1,h2⟩
  ·rw[h1];simp[RepV,RepC,RepD]
  ·rw[h1]at rk
   exact RepV.ren _ _ h2 rk
def AW.loop{Y:Type}(hp:c.pure){body:MC}(I:Y->Prop)(t:Y->List (Nat × AV))(bs:Y->List Blk)(μ:Y->Nat){x0:Y}{l0:List Nat}(hI:I x0)(h0:Match l0 S (t x0) (bs x0))
  (round:∀x,I x->AW P c body (zf2 (fun S'=>∃x' l,I x'/\Match l S' (t x') (bs x')/\μ x'<μ x) Q) (hd (t x) (bs x))):AW P c (.loop body) Q S:=by
 intro code hc a w r
 cases code with
 | loop b=>
  simp only[chkC]at hc
  intro fr k cs
  have key:∀n:Nat,∀x,μ x=n->I x->∀a w,Rel P c (hd (t x) (bs x)).get (hd (t x) (bs x)).m a w->
    ∃e a' w',(∃S':St,Rel P c S'.get S'.m a' w'/\Q e S')/\Arrives P (lone (fr.at a (.code b::.inLoop b::k)) cs w) fr k cs e a' w':=by
   intro n
   induction n using Nat.strongRecOn with
   | _ n ih=>
    intro x hn hx a w r
    obtain⟨e,a₁,w₁,⟨S',r',q⟩,harr⟩:=round x hx b hc a w r fr (.inLoop b::k) cs
    cases e with
    |normal=>
     obtain⟨x',l,hx',hm,hlt⟩:=q
     obtain⟨e₂,a₂,w₂,hq₂,harr₂⟩:=ih (μ x') (hn▸hlt) x' rfl hx' a₁ w₁ (Rel.view hp hm r')
     exact⟨e₂,a₂,w₂,hq₂,.of_steps (Steps.trans harr (.one step_inLoop)) harr₂⟩
    |exit id=>exact⟨_,a₁,w₁,⟨S',r',q⟩,.pass (x:=.inLoop b) rfl (fun _ _=>.inl (by simp)) harr⟩
    |goto l=>exact⟨_,a₁,w₁,⟨S',r',q⟩,.pass (x:=.inLoop b) rfl (fun _ _=>.inl (by simp)) harr⟩
    |ret=>exact⟨_,a₁,w₁,⟨S',r',q⟩,.pass (x:=.inLoop b) rfl (fun _ _=>.inl (by simp)) harr⟩
    |panic ch=>exact⟨_,a₁,w₁,⟨S',r',q⟩,.pass (x:=.inLoop b) rfl (fun _ _=>.inl (by simp)) harr⟩
    |outgrown=>exact⟨_,a₁,w₁,⟨S',r',q⟩,.pass (x:=.inLoop b) rfl (fun _ _=>.inl (by simp)) harr⟩
  obtain⟨e,a',w',hq,harr⟩:=key _ x0 rfl hI a w (Rel.view hp h0 r)
  exact⟨e,a',w',hq,.of_steps (.one step_loop) harr⟩
 |_=>simp[chkC]at hc
end
end Go.Abs
