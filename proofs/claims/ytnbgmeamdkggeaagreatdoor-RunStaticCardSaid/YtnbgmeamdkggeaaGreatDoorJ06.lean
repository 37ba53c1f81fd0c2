/- Texts of ours, joined and written short by a program of ours. -/
import Derived.Test.YtnbgmeamdkggeaaGreatDoorJ05
import Derived.Defers
import Derived.Test.YtnbgmeamdkggeaaGreatDoorChecked
import Derived.KernelRfl
set_option maxRecDepth 20000
set_option maxHeartbeats 4000000
set_option linter.unusedVariables false
set_option linter.unusedSectionVars false
set_option linter.unusedSimpArgs false
set_option linter.defProp false
set_option linter.unnecessarySimpa false
namespace Go.Abs
def bs(l:List Nat):di:=⟨(l.map UInt8.ofNat).toArray⟩
inductive TY where
|i (k:IntKind)|s|b|o (x:D) (n:Nat)|l (e:Nat)|r (z y:Nat) (f:List Nat)|a (z n e:Nat)|m (k e:Nat)
def gJ{α:Type}:List α->List α->List α
|[],r=>r
|x::l,r=>x::gJ l r
def IK{α:Type}(x:α):List α->Nat->α
|[],_=>x
|y::_,0=>y
|_::l,n+1=>IK x l n
def LF(f:Nat->List D):List Nat->List D
|[]=>[]
|x::l=>gJ (f x) (LF f l)
def sO:TY->Nat
|.r z _ _=>z
|.a z _ _=>z
|_=>1
def Db:TY->Bool
|.r _ _ _=>true
|.a _ _ _=>true
|_=>false
def IL:TY->Nat
|.i .u8=>1
|.i _=>8
|.s=>16
|.b=>1
|.o _ n=>n
|.l _=>24
|.r _ y _=>y
|_=>8
section
variable (T:Nat->TY)
def Rm:TY->Nat
|.l e=>sO (T e)
|_=>0
def Bf:Nat->List D->List D
|0,_=>[]
|n+1,l=>gJ l (Bf n l)
def gZ:Nat->TY->List D
|_,.i k=>[.int k 0]
|_,.s=>[.str (bs [])]
|_,.b=>[.bool false]
|_,.o x _=>[x]
|_,.l e=>[.sl true (sO (T e)) []]
|n+1,.r _ _ f=>LF (λt=>gZ n (T t)) f
|n+1,.a _ k e=>Bf k (gZ n (T e))
|_,_=>[.sc (.map none)]
def LG:List UInt8->List Nat
|[]=>[]
|c::l=>c.toNat::LG l
def gV(t:TY):Value->D
|.bool b=>.bool b
|.int k n=>.int k n
|.string ⟨⟨l⟩⟩=>.str (bs (LG l))
|.pointer _=>.sc (.pointer none)
|.nilFunc=>.sc .nilFunc
|.nilIface=>.sc .nilIface
|.map _=>.sc (.map none)
|.slice _ _ _=>.sl true (Rm T t) []
|_=>.any
def gX(t:TY):Operand->MX
|.tmp k=>.t k
|.func f=>.k (.fn (.func f) [])
|.const (.agg _)=>.a (gZ T 9 t)
|.const v=>.k (gV T t v)
|_=>.k .any
def xX:List Operand->List Nat->List MX
|x::l,t::ts=>gX T (T t) x::xX l ts
|x::l,[]=>gX T .s x::xX l []
|[],_=>[]
def gO:Option Operand->Option MX
|none=>none
|some x=>some (gX T .s x)
def gH(k d:Nat):List (Nat × Nat)->Bool
|[]=>false
|x::l=>match x.1==k,x.2==d with
 |true,true=>true
 |_,_=>gH k d l
def Eg:TY->Nat
|.s=>1
|.b=>2
|.r _ _ _=>3
|_=>0
def Eh:Nat->List Nat->Nat × Nat
|0,t::_=>(0,t)
|n+1,t::l=>match Eh n l with|(o,u)=>(sO (T t)+o,u)
|_,[]=>(0,0)
def LH:List Nat->List (Nat × Operand)->List (Nat × Nat × MX)
|_,[]=>[]
|f,(i,x)::l=>match Eh T i f with|(o,u)=>(o,sO (T u),gX T (T u) x)::LH f l
def gEs(e:Nat):List (Nat × Operand)->List (Nat × Nat × MX)
|[]=>[]
|(i,x)::l=>(i*sO (T e),sO (T e),gX T (T e) x)::gEs e l
def Ei(e:Nat):List (Nat × Operand)->List MX
|[]=>[]
|(_,x)::l=>gX T (T e) x::Ei e l
def LJ:List Nat->List Nat
|[]=>[]
|t::l=>Eg (T t)::LJ l
def jf:mP:=.mv (.k .any)
def Ej(op:BinOp)(x y:Operand):TY->mP
|.s=>match op with
 |.add=>.cat (gX T .s x) (gX T .s y)
 |_=>.binS op (gX T .s x) (gX T .s y)
|.b=>.binB op (gX T .s x) (gX T .s y)
|.i _=>match op with
 |.quo=>.divI op (gX T .s x) (gX T .s y)
 |.rem=>.divI op (gX T .s x) (gX T .s y)
 |.shl=>.shI op (gX T .s x) (gX T .s y)
 |.shr=>.shI op (gX T .s x) (gX T .s y)
 |_=>.binI op (gX T .s x) (gX T .s y)
|.r _ _ f=>.eqAg (match op with|.neq=>true|_=>false) (LJ T f) (gX T .s x) (gX T .s y)
|.l _=>.isNil (match op with|.neq=>true|_=>false) (gX T .s x)
|.o _ _=>.isNilP (match op with|.neq=>true|_=>false) (gX T .s x)
|_=>jf
def Rn (E:List (Nat × Nat)) (d:Nat):Callee->List Operand->List Nat->mP
| .value (.func f),xs,ts=>match gH 8 f E,xs with
 |true,[x,y]=>jf
 | _,_=>match gH 10 d E,gH 11 f E with
  |false,false=>(match gH 3 d E,gH 9 f E with
   |false,false=>.call f (xX T xs ts)
   |_,_=>.callM f (xX T xs ts))
  |_,_=>.callX f (xX T xs ts)
| .value f,xs,_=>match gH 2 d E with
 |true=>.calldM (gX T .s f) (xX T xs [])
 |false=>(match gH 12 d E with
  |true=>.calldX (gX T .s f) (xX T xs [])
  |false=>jf)
|.invoke x name,[],_=>.invk name (gX T .s x)
|.builtin .len,[x],[t]=>match T t with
 |.s=>.lenS (gX T .s x)
 |.m _ _=>jf
 |_=>.len (gX T .s x)
|.builtin .append,[x,y],[t,u]=>match T t with
 |.l e=>.append (sO (T e)) (IL (T e)) (gX T (.l e) x) (gX T (T u) y)
 |_=>jf
|.builtin .copy,[x,y],[t,_]=>match T t with
 |.l e=>.copy (sO (T e)) (gX T .s x) (gX T .s y)
 |_=>jf
|.builtin .delete,x::y::_,t::_=>match T t with
 |.m k _=>jf
 |_=>jf
|.builtin .min,[x,y],_=>.minI false (gX T .s x) (gX T .s y)
|.builtin .max,[x,y],_=>.minI true (gX T .s x) (gX T .s y)
|_,_,_=>jf
def LK(E:List (Nat × Nat))(d ty:Nat):Go.Op->mP
|.move x=>.mv (gX T (T ty) x)
|.assign x=>.mv (gX T (T ty) x)
|.pick c a b=>.pick (gX T .s c) (gX T (T ty) a) (gX T (T ty) b)
|.alloc t=>.alloc (gZ T 9 (T t))
|.box t v=>match gH 0 d E with
 |true=>.boxM (gX T (T t) v)
 |false=>.boxP (gX T (T t) v)
|.build t ⟨ps⟩=>match T t with
 |.r z y f=>.build (gZ T 9 (.r z y f)) (LH T f ps)
 |.a z n e=>.build (gZ T 9 (.a z n e)) (gEs T e ps)
 |_=>jf
|.buildSlice t _ ⟨ps⟩=>match T t,gH 1 d E with
 |.l e,true=>.buildSlM (sO (T e)) (Ei T e ps)
 |.l e,false=>.buildSl (sO (T e)) (Ei T e ps)
 |_,_=>jf
|.load t x=>.load (Db (T t)) (sO (T t)) (gX T .s x)
|.store t x v=>.store (sO (T t)) (gX T .s x) (gX T (T t) v)
|.nilCheck x=>.nilck (gX T .s x)
|.binOp op t x y _=>Ej T op x y (T t)
|.unOp op _ x=>match op with
 |.not=>.not (gX T .s x)
 |_=>.neg (gX T .s x)
| .convert s t x=>match T t with
 |.i k=>.convI k (gX T .s x)
 |.s=>(match T s with
  |.l _=>.toStr (gX T .s x)
  |_=>jf)
 |.l _=>(match T s with
  |.s=>.toBs (gX T .s x)
  |_=>jf)
 |_=>jf
|.slice t x l h m=>match T t,m with
 |.s,_=>.sliceS (gX T .s x) (gO T l) (gO T h)
 |.l e,none=>.slice (sO (T e)) (gX T (.l e) x) (gO T l) (gO T h)
 |.l e,some _=>jf
 |_,_=>jf
|.fieldAddr t x i=>match T t with
 |.r _ _ f=>match Eh T i f with|(o,_)=>.faddr o (gX T .s x)
 |_=>jf
|.field t x i=>match T t with
 |.r _ _ f=>match Eh T i f with|(o,u)=>jf
 |_=>jf
|.indexAddr t x i=>match T t with
 |.a _ n e=>.iaddrA n (sO (T e)) (gX T .s x) (gX T .s i)
 |.l e=>.iaddrS (sO (T e)) (gX T .s x) (gX T .s i)
 |_=>jf
|.index t x i=>match T t with
 |.s=>.idxS (gX T .s x) (gX T .s i)
 |.a _ n e=>jf
 |_=>jf
|.makeFunc (.func g) _ ⟨xs⟩=>.mkfn g (xX T xs [])
|.extract t i=>.extract (gX T .s t) i
|.call ⟨c,⟨xs⟩,⟨ts⟩⟩=>Rn T E d c xs ts
|.makeMap _ _=>.mkmap
|.mapUpdate t x k v=>match T t with
 |.m a e=>.mset (Eg (T a)) (gX T .s x) (gX T .s k) (gX T (T e) v)
 |_=>jf
|.insert t x k v=>match T t with
 |.m a e=>.mset (Eg (T a)) (gX T .s x) (gX T .s k) (gX T (T e) v)
 |_=>jf
|.lookup t x k ok=>match T t with
 |.m a e=>.mlook (Eg (T a)) ok (Db (T e)) (gZ T 9 (T e)) (gX T .s x) (gX T .s k)
 |_=>jf
|.makeSlice t l c=>match T t,gH 1 d E with
 |.l e,true=>.mkslM (gZ T 9 (T e)) (IL (T e)) (gX T .s l) (gX T .s c)
 |.l e,false=>jf
 |_,_=>jf
|.makeInterface t x=>.mkifc t (Db (T t)) (gX T (T t) x)
|.panic x=>.panicX (gX T .s x)
|.typeAssert x _ t ok=>.tas t ok (Db (T t)) (gZ T 9 (T t)) (gX T .s x)
|_=>jf
def IM:Nat->List Oper->Nat
|0,o::_=>o.dst.getD 0
|n+1,_::l=>IM n l
|_,[]=>0
def IP(E:List (Nat × Nat))(all:List Oper):List Oper->List MO
|[]=>[]
|⟨d,op,ty,_,_,g⟩::l=>⟨match g with|none=>none|some (j,b)=>some (IM j all,b),d,LK T E (d.getD 10000) ty op⟩::IP E all l
def zR(k:Nat)(E:List (Nat × Nat)):List Oper->Bool
|[]=>false
|o::l=>match gH k (o.dst.getD 10000) E with
 |true=>true
 |false=>zR k E l
def IQ:List MO->Bool
|[]=>false
|⟨_,_,op⟩::l=>match op with
 |.callX _ _=>true
 |.calldX _ _=>true
 |.panicX _=>true
 |_=>IQ l
def Ro(l:List MO):MC:=match IQ l with
|true=>.regx l
|false=>.reg l
def Rp(b:List Nat)(l:List MO):MC:=match IQ l with
|true=>.regdx b l
|false=>.regd b l
def gW(x:Bool)(f:MC->MC)(c:MC):MC:=match x with
|true=>f c
|false=>c
def gL{α:Type}(x:α):List (Nat × α)->Nat->α
|[],_=>x
|(i,y)::l,k=>match i==k with
 |true=>y
 |false=>gL x l k
def gC(E:List (Nat × Nat))(B:List (Nat × List Nat))(L:List (Nat × MC)):Code->MC
|.skip=>.skip
|.block i (.loop _)=>gW (gH 6 i E) .owq (.block i (.loop (gL .skip L i)))
|.region i ⟨os⟩ d=>gW (zR 5 E os) .owq (gW (zR 4 E os) .fzq (match d with
 |true=>Rp (gL [] B i) (IP T E os os)
 |false=>Ro (IP T E os os)))
|.seq a b=>.seq (gC E B L a) (gC E B L b)
|.cond c a b=>.cond (gX T .s c) (gC E B L a) (gC E B L b)
|.block i b=>.block i (gC E B L b)
|.loop b=>.loop (gC E B L b)
|.exit i=>.exit i
|.ret=>gW (gH 7 1 E) .fzq (gW (gH 7 0 E) .owq .ret)
|_=>.skip
end
def zS(i:Nat):Code->Option Code
|.seq a b=>match zS i a with
 |some c=>some c
 |none=>zS i b
|.cond _ a b=>match zS i a with
 |some c=>some c
 |none=>zS i b
|.block k (.loop b)=>match k==i with
 |true=>some b
 |false=>zS i b
|.block _ b=>zS i b
|.loop b=>zS i b
|_=>none
def iL(i:Nat)(c:Code):Code:=match zS i c with
|some b=>b
|none=>.skip
def gB(f:Func):Code:=match f.body with
|some c=>c
|none=>.skip
variable [jQ]
def tF (P : Program) (fn : Func) (N : Nat) (c : MC) (rs : List MR) : Bool := (decide (fn.ntmps = N) && (fn.name != "runtime.NumGoroutine")) && ((match fn.body with
|some b=>iH P N c b
|none=>false)&&ku P rs fn.results.toList)
abbrev WT(P:Program)(f:FuncId)(N:Nat)(c:MC)(rs:List MR):Prop:=∀{args:List DV} {v:DV},args.length<=N->(DV.okL args->∀x:Ctx,x.N=N->x.pure->w_ P x c (zO rs v) ⟨⟩ ⟨oQ 0 args,λ_=>.non,0⟩)->fu P f args v
abbrev WM(P:Program)(f:FuncId)(N:Nat)(c:MC)(rs:List MR):Prop:=∀{args:List AV} {bs:List Blk} {v:AV} {bs':List Blk},oC args N bs v bs'->(∀ts:List (Nat × Nat),ts.length=bs.length->AV.okL args->(∀b,b∈bs->b.ok)->∀x:Ctx,x.N=N->x.pure->w_ P x c (xV rs v bs' ts) ⟨⟩ ⟨nP 0 args,hpOf (bs++pq 0 ts),bs.length+ts.length⟩)->MCall P f args bs v bs'
abbrev WX(P:Program)(f:FuncId)(N:Nat)(c:MC)(rs:List MR):Prop:=∀{args:List AV} {bs:List Blk} {o:XO} {bs':List Blk},oC args N bs (match o with|.ret v=>v|.pan _=>.tup []) bs'->(∀ts:List (Nat × Nat),ts.length=bs.length->AV.okL args->(∀b,b∈bs->b.ok)->∀x:Ctx,x.N=N->x.pure->w_ P x c (uf rs o bs' ts) ⟨⟩ ⟨nP 0 args,hpOf (bs++pq 0 ts),bs.length+ts.length⟩)->gP P f args bs o bs'
def wX{P:Program}{f:FuncId}{N:Nat}{c:MC}{rs:List MR}{fn:Func}(hm:P.follows .mixedOrders=true)(hf:P.funcs[f]?=some fn)(h:tF P fn N c rs=true):WX P f N c rs:=by
 unfold tF at h;simp only[aC,aI]at h;obtain⟨⟨e,hn⟩,hc,hr⟩:=h;subst e;cases hb:fn.body with
 |none=>rw[hb]at hc;cases hc
 |some b=>
  rw[hb]at hc;exactλhs k=>gP.of_walk' hf hb hn hc hr hm hs k
def wT{P:Program}{f:FuncId}{N:Nat}{c:MC}{rs:List MR}{fn:Func}(hm:P.follows .mixedOrders=true)(hf:P.funcs[f]?=some fn)(h:tF P fn N c rs=true):WT P f N c rs:=by
 unfold tF at h;simp only[aC,aI]at h;obtain⟨⟨e,hn⟩,hc,hr⟩:=h;subst e;cases hb:fn.body with
 |none=>rw[hb]at hc;cases hc
 |some b=>
  rw[hb]at hc;exactλhl k=>fu.of_walk hf hb hn hc hr hl λo x e p=>W.aw hm (Ad (k o x e p))
def wM{P:Program}{f:FuncId}{N:Nat}{c:MC}{rs:List MR}{fn:Func}(hm:P.follows .mixedOrders=true)(hf:P.funcs[f]?=some fn)(h:tF P fn N c rs=true):WM P f N c rs:=by
 unfold tF at h;simp only[aC,aI]at h;obtain⟨⟨e,hn⟩,hc,hr⟩:=h;subst e;cases hb:fn.body with
 |none=>rw[hb]at hc;cases hc
 |some b=>
  rw[hb]at hc;exactλhs k=>MCall.of_walk' hf hb hn hc hr hm hs k
attribute [simp] gJ IK LF sO Db IL Rm Bf gZ LG gV gX xX gO gH Eg Eh LH gEs Ei LJ jf Ej Rn LK IM IP zR IQ Ro Rp gW gL gC zS iL gB
end Go.Abs
namespace Go.Abs
variable [jQ]
section
variable (T:Nat->TY)
def Rq(ty:Nat):Go.Op->mP
|.box t v=>.boxM (gX T (T t) v)
|.buildSlice t _ ⟨ps⟩=>match T t with
 |.l e=>.buildSlM (sO (T e)) (Ei T e ps)
 |_=>jf
|.makeSlice t l c=>match T t with
 |.l e=>.mkslM (gZ T 9 (T e)) (IL (T e)) (gX T .s l) (gX T .s c)
 |_=>jf
|.call ⟨.value (.func f),⟨xs⟩,⟨ts⟩⟩=>.callM f (xX T xs ts)
|.call ⟨.value (.tmp f),⟨xs⟩,_⟩=>.calldM (gX T .s (.tmp f)) (xX T xs [])
|op=>LK T [] 0 ty op
def IR(all:List Oper):List Oper->List MO
|[]=>[]
|⟨d,op,ty,_,_,g⟩::l=>⟨match g with|none=>none|some (j,b)=>some (IM j all,b),d,Rq T ty op⟩::IR all l
def hC(B:List (Nat × List Nat)):Code->MC
|.region i ⟨os⟩ d=>match d with
 |true=>.regd (gL [] B i) (IR T os os)
 |false=>.reg (IR T os os)
|.seq a b=>.seq (hC B a) (hC B b)
|.cond c a b=>.cond (gX T .s c) (hC B a) (hC B b)
|.block i b=>.block i (hC B b)
|.loop b=>.loop (hC B b)
|.exit i=>.exit i
|.ret=>.ret
|_=>.skip
end
attribute [simp] Rq IR hC
abbrev ER:=AV × List Nat × List (Nat × Blk) × Nat
def El(ag:Bool)(sz:Nat)(cs:List AC)(off:Nat):Option AV:=match ag with
|true=>if off+sz<=cs.length then some (.ag (cut cs off sz))else none
|false=>match cs[off]? with
 |some c=>some (.c c)
 |none=>none
def LM{ag:Bool}{sz:Nat}{cs:List AC}{off:Nat}{v:AV}{K:AV->Prop}(e:El ag sz cs off=some v)(k:K v):wu ag sz cs off K:=by
 unfold El at e;unfold wu;cases ag with
 |true=>
  simp only at e⊢;split at e
  ·rename_i h;cases e;exact⟨h,k⟩
  ·cases e
 |false=>
  simp only at e⊢;split at e
  ·cases e;rename_i c hc;rw[hc];exact k
  ·cases e
def IU(ag:Bool)(sz:Nat)(cs:List D)(off:Nat):Option AV:=match ag with
|true=>if off+sz<=cs.length then some (.ag ((cut cs off sz).map .d))else none
|false=>match cs[off]? with
 |some c=>some (.c (.d c))
 |none=>none
def Rs{ag:Bool}{sz:Nat}{cs:List D}{off:Nat}{v:AV}{K:AV->Prop}(e:IU ag sz cs off=some v)(k:K v):A7 ag sz cs off K:=by
 unfold IU at e;unfold A7;cases ag with
 |true=>
  simp only at e⊢;split at e
  ·rename_i h;cases e;exact⟨h,k⟩
  ·cases e
 |false=>
  simp only at e⊢;split at e
  ·cases e;rename_i c hc;rw[hc];exact k
  ·cases e
def Dc(get:Nat->AV)(m:Hp)(s:Nat)(y:MX):Option (List (List AC) × List Nat):=match X get y with
|.c (.d (.sl _ s' ys))=>if s=s' then some (ys.map (·.map .d),[])else none
|.c (.msl s' b off len)=>match m b with
 |.arr s'' es=>if s=s'/\s=s''/\off+len<=es.length then some ((es.drop off).take len,[b])else none
 |_=>none
|_=>none
def zU(get:Nat->AV)(d:Nat):Option MX->Option Nat
|none=>some d
|some x=>match X get x with
 |.c (.d (.int _ j))=>if 0<=j then some j.toNat else none
 |_=>none
def De{get:Nat->AV}{d:Nat}{K:Nat->Prop}{x:Option MX}{j:Nat}(e:zU get d x=some j)(k:K j):bnd get d K x:=by
 cases x with
 |none=>simp only[zU]at e;cases e;exact k
 | some x=>
  simp only[zU]at e;simp only[bnd];split at e
  ·rename_i q hq;split at e
   ·rename_i h;cases e;rw[hq];exact⟨h,k⟩
   ·cases e
  ·cases e
def tH:List Nat->Nat->Nat->Nat
|[],_,_=>0
|x::l,b,i=>if x=b then i else tH l b (i+1)
def wB:List Nat->Nat->Bool
|[],_=>false
|x::l,b=>if x=b then true else wB l b
mutual
def AC.refs:AC->List Nat
|.ptr b _=>[b]
|.ept _ b _ _=>[b]
|.msl _ b _ _=>[b]
|.map b=>[b]
|.fn _ cs=>AC.refsL cs
|_=>[]
def AC.refsL:List AC->List Nat
|[]=>[]
|c::cs=>gJ c.refs (AC.refsL cs)
end
mutual
def AV.refs:AV->List Nat
|.c x=>x.refs
|.ag cs=>AC.refsL cs
|.tup vs=>AV.refsL vs
def AV.refsL:List AV->List Nat
|[]=>[]
|v::vs=>gJ v.refs (AV.refsL vs)
end
def Rt:List (List AC)->List Nat
|[]=>[]
|e::es=>gJ (AC.refsL e) (Rt es)
def Blk.refs:Blk->List Nat
|.box cs=>AC.refsL cs
|.arr _ es=>Rt es
|_=>[]
def vN(h:Hp):Nat->List Nat->List Nat->List Nat
|0,_,seen=>seen
|_+1,[],seen=>seen
|f+1,b::todo,seen=>if wB seen b then vN h f todo seen else vN h f (gJ (h b).refs todo) (gJ seen [b])
def yX(f:Nat->Nat)(h:Hp):List Nat->List Blk
|[]=>[]
|j::l=>(h j).ren f::yX f h l
abbrev CE:=FuncId->List AV->List Blk->Option (AV × List Blk)
def Em(C:CE)(h:Hp)(n:Nat)(f:FuncId)(vs:List AV):Option ER:=
 let L:=vN h 10000 (AV.refsL vs) [];let g:=λb=>tH L b 0;let q:=λb=>gm L (g b)==b&&wB L b;let bs:=yX g h L;let ι:=AV.rens g vs
 if decide L.Nodup&&L.all (λi=>decide (i<n))&&AV.lvs q vs&&AV.lts L.length ι&&L.all (λj=>(h j).lv q&&(h j).tag !=1)&&bs.all (·.lt L.length)then
  match C f ι bs with
  |some (v,bs')=>
   let d:=bs'.length-L.length;let L':=L++gT n d
   some (v.ren (gm L'),[],ni (gm L') L' bs',n+d)
  |none=>none
 else none
def lD (C:CE) (get:Nat->AV) (h:Hp) (n:Nat):mP->Option ER
|.mv x=>some (X get x,[],[],n)
| .pick c a b=>match X get c with
 |.c (.d (.bool t))=>match t with
  |true=>some (X get a,[],[],n)
  |false=>some (X get b,[],[],n)
 |_=>none
|.binI op x y=>match X get x,X get y with
 |.c (.d (.int k a)),.c (.d (.int k' b))=>if k=k' then(match DC op k a b with|some d=>some (.c (.d d),[],[],n)|none=>none)else none
 |_,_=>none
|.divI op x y=>match X get x,X get y with
 |.c (.d (.int k a)),.c (.d (.int k' b))=>if k=k'/\b≠0 then(match op with|.quo=>some (.c (.d (.int k (k.wrap (a.tdiv b)))),[],[],n)|.rem=>some (.c (.d (.int k (a.tmod b))),[],[],n)|_=>none)else none
 |_,_=>none
|.shI op x y=>match X get x,X get y with
 |.c (.d (.int k a)),.c (.d (.int k' b))=>if 0<=b then(match op with|.shl=>some (.c (.d (.int k (k.wrap (a*2^min b.toNat k.bits)))),[],[],n)|.shr=>some (.c (.d (.int k (a.fdiv (2^min b.toNat k.bits)))),[],[],n)|_=>none)else none
 |_,_=>none
|.binS op x y=>match X get x,X get y with
 |.c (.d (.str a)),.c (.d (.str b))=>(match DD op a b with|some d=>some (.c (.d d),[],[],n)|none=>none)
 |_,_=>none
|.cat x y=>match X get x,X get y with
 |.c (.d (.str a)),.c (.d (.str b))=>if a.size+b.size<=zao then some (.c (.d (.str (a++b))),[],[],n)else none
 |_,_=>none
|.binB op x y=>match X get x,X get y with
 |.c (.d (.bool a)),.c (.d (.bool b))=>(match DF op a b with|some d=>some (.c (.d d),[],[],n)|none=>none)
 |_,_=>none
|.not x=>match X get x with
 |.c (.d (.bool a))=>some (.c (.d (.bool (!a))),[],[],n)
 |_=>none
|.neg x=>match X get x with
 |.c (.d (.int k a))=>some (.c (.d (.int k (k.wrap (0-a)))),[],[],n)
 |_=>none
|.convI k x=>match X get x with
 |.c (.d (.int _ a))=>some (.c (.d (.int k (k.wrap a))),[],[],n)
 |_=>none
|.boxM x=>match sZ (X get x)with
 |some cs=>some (.c (.ptr n 0),[],[(n,.box cs)],n+1)
 |none=>none
|.alloc z=>some (.c (.ptr n 0),[],[(n,.box (z.map .d))],n+1)
|.build z ps=>match zJ get (z.map .d) ps with
 |some cs=>some (.ag cs,[],[],n)
 |none=>none
|.buildSlM s xs=>match p9 get s xs with
 |some es=>some (.c (.msl s n 0 xs.length),[],[(n,.arr s es)],n+1)
 |none=>none
| .load ag sz x=>match X get x with
 |.c (.d (.rp cs off))=>(match IU ag sz cs off with|some v=>some (v,[],[],n)|none=>none)
 |.c (.ptr b off)=>match h b with
  |.box cs=>(match El ag sz cs off with|some v=>some (v,[b],[],n)|none=>none)
  |_=>none
 |.c (.ept s b i off)=>match h b with
  |.arr s' es=>if s=s' then(match es[i]? with|some e=>(match El ag sz e off with|some v=>some (v,[b],[],n)|none=>none)|none=>none)else none
  |_=>none
 |_=>none
| .store sz a v=>match X get a,sZ (X get v)with
 |.c (.ptr b off),some l=>match h b with
  |.box cs=>if l.length=sz/\off+sz<=cs.length then some (.c (.d .any),[],[(b,.box (put cs off l))],n)else none
  |_=>none
 |.c (.ept s b i off),some l=>match h b with
  |.arr s' es=>if s=s'/\l.length=sz/\off+sz<=s then(match es[i]? with|some e=>some (.c (.d .any),[],[(b,.arr s (es.set i (put e off l)))],n)|none=>none)else none
  |_=>none
 |_,_=>none
|.faddr off x=>match X get x with
 |.c (.ptr b o)=>some (.c (.ptr b (o+off)),[],[],n)
 |.c (.ept s b i o)=>some (.c (.ept s b i (o+off)),[],[],n)
 |.c (.d (.rp cs o))=>some (.c (.d (.rp cs (o+off))),[],[],n)
 |_=>none
|.iaddrS s x i=>match X get x,X get i with
 |.c (.d (.sl _ s' es)),.c (.d (.int _ j))=>if s=s'/\0<=j then(match es[j.toNat]? with|some e=>some (.c (.d (.rp e 0)),[],[],n)|none=>none)else none
 |.c (.msl s' b off len),.c (.d (.int _ j))=>if s=s'/\0<=j/\j<len then some (.c (.ept s b (off+j.toNat) 0),[],[],n)else none
 |_,_=>none
|.idxS x i=>match X get x,X get i with
 |.c (.d (.str t)),.c (.d (.int _ j))=>if 0<=j then(match t.data.toList[j.toNat]? with|some b=>some (.c (.d (.int .u8 b.toNat)),[],[],n)|none=>none)else none
 |_,_=>none
| .len x=>match X get x with
 |.c (.d (.sl _ _ es))=>some (.c (.d (.int .i64 es.length)),[],[],n)
 |.c (.msl _ b off l)=>match h b with
  |.arr _ es=>if off+l<=es.length then some (.c (.d (.int .i64 l)),[b],[],n)else none
  |_=>none
 |_=>none
|.lenS x=>match X get x with
 |.c (.d (.str t))=>some (.c (.d (.int .i64 t.size)),[],[],n)
 |_=>none
|.nilck x=>match X get x with
 |.c (.ptr b o)=>some (.c (.ptr b o),[],[],n)
 |.c (.ept s b i o)=>some (.c (.ept s b i o),[],[],n)
 |.c (.d (.rp cs o))=>some (.c (.d (.rp cs o)),[],[],n)
 |_=>none
| .extract x i=>match X get x with
 |.tup vs=>match vs[i]? with
  |some v=>some (v,[],[],n)
  |none=>none
 |_=>none
| .slice s x lo hi=>match X get x with
 |.c (.d (.sl e s' es))=>(match zU get es.length hi,zU get 0 lo with
  |some u,some l=>if s=s'/\l<=u/\u<=es.length then some (.c (.d (.sl (e&&hi.isNone) s ((es.take u).drop l))),[],[],n)else none
  |_,_=>none)
 |.c (.msl s' b off len)=>(match zU get len hi,zU get 0 lo with
  |some u,some l=>if s=s'/\l<=u/\u<=len then some (.c (.msl s b (off+l) (u-l)),[],[],n)else none
  |_,_=>none)
 |_=>none
| .sliceS x lo hi=>match X get x with
 |.c (.d (.str t))=>(match zU get t.size hi,zU get 0 lo with
  |some u,some l=>if l<=u/\u<=t.size then some (.c (.d (.str (t.extract l u))),[],[],n)else none
  |_,_=>none)
 |_=>none
| .append s bytes x y=>match X get x with
 |.c (.msl s' b off len)=>match h b,Dc get h s y with
  |.arr s'' es,some (ys,rd)=>if s=s'/\s=s''/\off=0/\len<=es.length/\(len+ys.length)*bytes<=70368744177664/\(rd=[]\/rd=[b]\/b∉rd)then some (.c (.msl s n 0 (len+ys.length)),rd,[(b,.dead),(n,.arr s (es.take len++ys))],n+1)else none
  |_,_=>none
 |.c (.d (.sl true s' []))=>match Dc get h s y with
  |some (ys,rd)=>if ys.length*bytes<=70368744177664 then some (.c (.msl s n 0 ys.length),rd,[(n,.arr s ys)],n+1)else none
  |none=>none
 |_=>none
| .copy s x y=>match X get x with
 |.c (.msl s' b off len)=>match h b,Dc get h s y with
  |.arr s'' es,some (ys,rd)=>if s=s'/\s=s''/\off+len<=es.length/\ys.length<=len then some (.c (.d (.int .i64 ys.length)),rd,[(b,.arr s (es.take off++ys++es.drop (off+ys.length)))],n)else none
  |_,_=>none
 |_=>none
|.mkslM z bytes x y=>match X get x,X get y with
 |.c (.d (.int .i64 j)),.c (.d (.int .i64 l))=>if 0<=j/\j<=l/\l*bytes<=70368744177664 then some (.c (.msl z.length n 0 j.toNat),[],[(n,.arr z.length ((List.replicate j.toNat z).map (·.map .d)))],n+1)else none
 |_,_=>none
|.minI mx x y=>match X get x,X get y with
 |.c (.d (.int k a)),.c (.d (.int k' b))=>if k=k' then some (.c (.d (.int k (yR mx a b))),[],[],n)else none
 |_,_=>none
|.toBs x=>match X get x with
 |.c (.d (.str s))=>some (.c (.d (.sl false 1 (s.data.toList.map λb=>[.int .u8 b.toNat]))),[],[],n)
 |_=>none
| .toStr x=>match Dc get h 1 x with
 |some (ys,rd)=>(match ww ys with
  |some l=>if l.length<=zao then some (.c (.d (.str ⟨l.toArray⟩)),rd,[],n)else none
  |none=>none)
 |none=>none
|.isNil ne x=>match X get x with
 |.c (.d (.sl _ _ (_::_)))=>some (.c (.d (.bool ne)),[],[],n)
 |.c (.d (.sc (.slice none _ _)))=>some (.c (.d (.bool !ne)),[],[],n)
 |.c (.msl _ _ _ len)=>if 0<len then some (.c (.d (.bool ne)),[],[],n)else none
 |_=>none
|.iaddrA len s x i=>match X get x,X get i with
 |.c (.ptr b o),.c (.d (.int _ j))=>if 0<=j/\j<len then some (.c (.ptr b (o+j.toNat*s)),[],[],n)else none
 |.c (.d (.rp cs o)),.c (.d (.int _ j))=>if 0<=j/\j<len then some (.c (.d (.rp cs (o+j.toNat*s))),[],[],n)else none
 |_,_=>none
| .mkifc T ag x=>match ag,X get x with
 |false,.c (.d d)=>if d.one=true then some (.c (.d (.ifc T false [d])),[],[],n)else none
 | false,.c (.ptr b off)=>(match h b with
  |.box cs=>(match mQ h cs with
   |some (ds,l)=>if b∉l then some (.c (.d (.ifc T false [.rp ds off])),[],(l++[b]).map (λj=>(j,.dead)),n)else none
   |none=>none)
  |_=>none)
 |_,_=>none
|.isNilP ne x=>match X get x with
 |.c (.d (.sc (.pointer none)))=>some (.c (.d (.bool !ne)),[],[],n)
 |.c (.d (.rp _ _))=>some (.c (.d (.bool ne)),[],[],n)
 |.c (.ptr _ _)=>some (.c (.d (.bool ne)),[],[],n)
 |.c (.ept _ _ _ _)=>some (.c (.d (.bool ne)),[],[],n)
 |_=>none
|.callM f xs=>Em C h n f (xs.map (X get))
| .mkfn f caps=>match zK get caps with
 |some cs=>(match jC cs with
  |some ds=>some (.c (.d (.fn (.func f) ds)),[],[],n)
  |none=>some (.c (.fn (.func f) cs),[],[],n))
 |none=>none
|.calldM x xs=>match X get x with
 |.c (.fn (.func f) caps)=>Em C h n f (xs.map (X get)++caps.map .c)
 |.c (.d (.fn (.func f) caps))=>Em C h n f (xs.map (X get)++caps.map λc=>.c (.d c))
 |_=>none
|_=>none
mutual
def AC.ren_back{f g:Nat->Nat}{q:Nat->Bool}(H:∀b,q b=true->f (g b)=b):∀x:AC,x.lv q=true->(x.ren g).ren f=x
|.d x,_=>rfl
|.ptr b o,h=>by simp only[AC.lv]at h;simp only[AC.ren,H b h]
|.ept s b i o,h=>by simp only[AC.lv]at h;simp only[AC.ren,H b h]
|.msl s b i o,h=>by simp only[AC.lv]at h;simp only[AC.ren,H b h]
|.map b,h=>by simp only[AC.lv]at h;simp only[AC.ren,H b h]
|.fn k cs,h=>by simp only[AC.lv]at h;simp only[AC.ren,AC.rens_back H cs h]
|.op _,_=>rfl
def AC.rens_back{f g:Nat->Nat}{q:Nat->Bool}(H:∀b,q b=true->f (g b)=b):∀x:List AC,AC.lvs q x=true->AC.rens f (AC.rens g x)=x
|[],_=>rfl
|c::cs,h=>by simp only[AC.lvs,aC]at h;simp only[AC.rens,AC.ren_back H c h.1,AC.rens_back H cs h.2]
end
mutual
def AV.ren_back{f g:Nat->Nat}{q:Nat->Bool}(H:∀b,q b=true->f (g b)=b):∀x:AV,x.lv q=true->(x.ren g).ren f=x
|.c x,h=>by simp only[AV.lv]at h;simp only[AV.ren,AC.ren_back H x h]
|.ag cs,h=>by simp only[AV.lv]at h;simp only[AV.ren,AC.rens_back H cs h]
|.tup vs,h=>by simp only[AV.lv]at h;simp only[AV.ren,AV.rens_back H vs h]
def AV.rens_back{f g:Nat->Nat}{q:Nat->Bool}(H:∀b,q b=true->f (g b)=b):∀x:List AV,AV.lvs q x=true->AV.rens f (AV.rens g x)=x
|[],_=>rfl
|v::vs,h=>by simp only[AV.lvs,aC]at h;simp only[AV.rens,AV.ren_back H v h.1,AV.rens_back H vs h.2]
end
def Blk.ren_back{f g:Nat->Nat}{q:Nat->Bool}(H:∀b,q b=true->f (g b)=b){x:Blk}(h:x.lv q=true):(x.ren g).ren f=x:=by
 cases x with
 |non=>rfl
 |dead=>rfl
 |box cs=>simp only[Blk.lv]at h;simp only[Blk.ren,AC.rens_back H cs h]
 |arr s es=>
  simp only[Blk.lv,aZ]at h;simp only[Blk.ren,dK,Blk.arr.injEq,true_and];exact(List.map_congr_left λe he=>AC.rens_back H e (h e he)).trans (List.map_id' es)
 |map es=>
  simp only[Blk.lv,aZ]at h;simp only[Blk.ren,dK,Blk.map.injEq];exact(List.map_congr_left (f:=(λe:D × AV=>(e.1,e.2.ren f))∘λe:D × AV=>(e.1,e.2.ren g)) (g:=λe=>e) λe he=>by simp[AV.ren_back H e.2 (h e he)]).trans (List.map_id' es)
 |pin t b=>
  simp only[Blk.lv]at h;simp only[Blk.ren,H b h]
def qp(h m:Hp):Prop:=∀b,h b=.dead\/m b=h b
def qp.box{h m:Hp}(a:qp h m){b:Nat}{cs:List AC}(e:h b=.box cs):m b=.box cs:=((a b).resolve_left (by rw[e];simp)).trans e
def qp.arr{h m:Hp}(a:qp h m){b s:Nat}{es:List (List AC)}(e:h b=.arr s es):m b=.arr s es:=((a b).resolve_left (by rw[e];simp)).trans e
def qp.non{h m:Hp}(a:qp h m){b:Nat}(e:h b=.non):m b=.non:=((a b).resolve_left (by rw[e];simp)).trans e
def LP{h m:Hp}(a:qp h m):∀{cs:List AC} {p:List D × List Nat},mQ h cs=some p->mQ m cs=some p
|[],p,e=>e
|.d x::cs,p,e=>by
 simp only[mQ,aJ]at e⊢;obtain⟨q,e1,e2⟩:=e;exact⟨q,LP a e1,e2⟩
| .msl s b off len::cs,p,e=>by
 simp only[mQ]at e⊢;split at e
 ·rename_i s' es q hb hq;simp only[a.arr hb,LP a hq];exact e
 ·cases e
|.ptr .. ::_,p,e=>by simp[mQ]at e
|.ept .. ::_,p,e=>by simp[mQ]at e
|.map .. ::_,p,e=>by simp[mQ]at e
|.fn .. ::_,p,e=>by simp[mQ]at e
|.op .. ::_,p,e=>by simp[mQ]at e
def IV{get:Nat->AV}{h m:Hp}(a:qp h m){s:Nat}{y:MX}{K:List (List AC)->List Nat->Prop}{ys:List (List AC)}{rd:List Nat}(e:Dc get h s y=some (ys,rd))(k:K ys rd):mH get m s K y:=by
 unfold Dc at e;unfold mH;split at e
 ·rename_i hx;rw[hx];split at e
  ·cases e;exact⟨by assumption,k⟩
  ·cases e
 ·rename_i hx;rw[hx];split at e
  ·rename_i hb;simp only[a.arr hb];split at e
   ·rename_i hh;cases e;exact⟨hh.1,hh.2.1,hh.2.2,k⟩
   ·cases e
  ·cases e
 ·cases e
def Ru{h m:Hp}(a:qp h m){f g:Nat->Nat}{q:Nat->Bool}(H:∀b,q b=true->f (g b)=b):∀{l:List Nat},l.all (λj=>(h j).lv q&&(h j).tag !=1)=true->oN m f l (yX g h l)
|[],_=>trivial
|j::l,hl=>by
 simp only[List.all_cons,aC]at hl;refine⟨?_,Ru a H (by simpa using hl.2)⟩;rw[Blk.ren_back H hl.1.1];refine(a j).resolve_left λe=>?_;have:=hl.1.2;rw[e]at this;simp at this
def Rv{m:Hp}{n:Nat}(hn:∀j,n<=j->m j=.non):∀d k,n<=k->uJ m k d
|0,_,_=>trivial
|d+1,k,h=>⟨hn k h,Rv hn d (k+1) (by omega)⟩
section
variable {P:Program} {C:CE} {get:Nat->AV} {h m:Hp} {n:Nat}
def LQ(hC:∀f ι bs v bs',C f ι bs=some (v,bs')->MCall P f ι bs v bs')(a:qp h m)(hn:∀j,n<=j->h j=.non){f:FuncId}{vs:List AV}{v:AV}{rd:List Nat}{wr:List (Nat × Blk)}{n':Nat}(e:Em C h n f vs=some (v,rd,wr,n'))
  {K:AV->List Nat->List (Nat × Blk)->Nat->Prop} (k:K v rd wr n'):vX P f vs m n K:=by
 unfold Em at e;simp only at e;split at e
 ·rename_i hh;simp only[aC,aI]at hh;obtain⟨⟨⟨⟨⟨h1,h2⟩,h3⟩,h4⟩,h5⟩,h6⟩:=hh;split at e
  ·rename_i w bs' hc;simp only[aO,ax]at e;obtain⟨rfl,rfl,rfl,rfl⟩:=e;have hL:(yX (λb=>tH (vN h 10000 (AV.refsL vs) []) b 0) h (vN h 10000 (AV.refsL vs) [])).length=(vN h 10000 (AV.refsL vs) []).length:=by
    generalize vN h 10000 (AV.refsL vs) []=L;have:∀(g:Nat->Nat) (l:List Nat),(yX g h l).length=l.length:=λg l=>by
     induction l with
     |nil=>rfl
     |cons x l ih=>simp[yX,ih]
    exact this _ _
   have H:∀b,(gm (vN h 10000 (AV.refsL vs) []) (tH (vN h 10000 (AV.refsL vs) []) b 0)==b&&wB (vN h 10000 (AV.refsL vs) []) b)=true->gm (vN h 10000 (AV.refsL vs) []) (tH (vN h 10000 (AV.refsL vs) []) b 0)=b:=λb hb=>by
    simp only[aC,aV]at hb;exact hb.1
   refine⟨_,_,_,_,_,hC _ _ _ _ _ hc,h1,λi hi=>of_decide_eq_true (aZ.1 h2 i hi),(AV.rens_back H vs h3).symm,h4,λb hb=>aZ.1 h6 b hb,Ru a H h5,?_,?_⟩
   ·exact Rv (λj hj=>a.non (hn j hj)) _ _ (aK _)
   ·rw[hL];exact k
  ·cases e
 ·cases e
def zgc(hC:∀f ι bs v bs',C f ι bs=some (v,bs')->MCall P f ι bs v bs')(a:qp h m)(hn:∀j,n<=j->h j=.non){op:mP}{v:AV}{rd:List Nat}{wr:List (Nat × Blk)}{n':Nat}(e:lD C get h n op=some (v,rd,wr,n'))
  {K:AV->List Nat->List (Nat × Blk)->Nat->Prop} (k:K v rd wr n'):ev P get m n K op:=by
 have hnn:m n=.non:=a.non (hn n (aK _));cases op with
 |mv x=>simp only[lD]at e;cases e;exact k
 | pick c x y=>
  simp only[lD]at e;simp only[ev];split at e
  ·rename_i t ht;rw[ht];cases t<;>(simp only at e;cases e;simp;exact k)
  ·cases e
 | binI op x y=>
  simp only[lD]at e;simp only[ev];split at e
  ·rename_i hx hy;rw[hx,hy];split at e
   ·rename_i hk;refine⟨hk,?_⟩;split at e
    ·rename_i hd;rw[hd];cases e;exact k
    ·cases e
   ·cases e
  ·cases e
 | divI op x y=>
  simp only[lD]at e;simp only[ev];split at e
  ·rename_i hx hy;rw[hx,hy];split at e
   ·rename_i hk;refine⟨hk.1,hk.2,?_⟩;cases op<;>first|(simp only at e;cases e;exact k)|(simp at e)
   ·cases e
  ·cases e
 | shI op x y=>
  simp only[lD]at e;simp only[ev];split at e
  ·rename_i hx hy;rw[hx,hy];split at e
   ·rename_i hk;refine⟨hk,?_⟩;cases op<;>first|(simp only at e;cases e;exact k)|(simp at e)
   ·cases e
  ·cases e
 | binS op x y=>
  simp only[lD]at e;simp only[ev];split at e
  ·rename_i hx hy;rw[hx,hy];split at e
   ·rename_i hd;simp only[hd];cases e;exact k
   ·cases e
  ·cases e
 | cat x y=>
  simp only[lD]at e;simp only[ev];split at e
  ·rename_i hx hy;rw[hx,hy];split at e
   ·rename_i hd;cases e;exact⟨hd,k⟩
   ·cases e
  ·cases e
 | binB op x y=>
  simp only[lD]at e;simp only[ev];split at e
  ·rename_i hx hy;rw[hx,hy];split at e
   ·rename_i hd;simp only[hd];cases e;exact k
   ·cases e
  ·cases e
 |not x=>
  simp only[lD]at e;simp only[ev];split at e
  ·rename_i hx;rw[hx];cases e;exact k
  ·cases e
 |neg x=>
  simp only[lD]at e;simp only[ev];split at e
  ·rename_i hx;rw[hx];cases e;exact k
  ·cases e
 |convI q x=>
  simp only[lD]at e;simp only[ev];split at e
  ·rename_i hx;rw[hx];cases e;exact k
  ·cases e
 |boxM x=>
  simp only[lD]at e;simp only[ev];split at e
  ·rename_i hx;rw[hx];cases e;exact⟨hnn,k⟩
  ·cases e
 |alloc z=>simp only[lD]at e;cases e;exact⟨hnn,k⟩
 |build z ps=>
  simp only[lD]at e;simp only[ev];split at e
  ·rename_i hx;rw[hx];cases e;exact k
  ·cases e
 |buildSlM s xs=>
  simp only[lD]at e;simp only[ev];split at e
  ·rename_i hx;rw[hx];cases e;exact⟨hnn,k⟩
  ·cases e
 | load ag sz x=>
  simp only[lD]at e;simp only[ev];split at e
  ·rename_i hx;rw[hx];split at e
   ·rename_i hd;cases e;exact Rs hd k
   ·cases e
  ·rename_i hx;rw[hx];split at e
   ·rename_i hb;simp only[a.box hb];split at e
    ·rename_i hd;cases e;exact LM hd k
    ·cases e
   ·cases e
  ·rename_i hx;rw[hx];split at e
   ·rename_i hb;simp only[a.arr hb];split at e
    ·rename_i hs;refine⟨hs,?_⟩;split at e
     ·rename_i hi;rw[hi];split at e
      ·rename_i hd;cases e;exact LM hd k
      ·cases e
     ·cases e
    ·cases e
   ·cases e
  ·cases e
 | store sz x y=>
  simp only[lD]at e;simp only[ev];split at e
  ·rename_i hx hy;rw[hx,hy];split at e
   ·rename_i hb;simp only[a.box hb];split at e
    ·rename_i hs;cases e;exact⟨hs.1,hs.2,k⟩
    ·cases e
   ·cases e
  ·rename_i hx hy;rw[hx,hy];split at e
   ·rename_i hb;simp only[a.arr hb];split at e
    ·rename_i hs;refine⟨hs.1,hs.2.1,hs.2.2,?_⟩;split at e
     ·rename_i hi;rw[hi];cases e;exact k
     ·cases e
    ·cases e
   ·cases e
  ·cases e
 |faddr off x=>
  simp only[lD]at e;simp only[ev];split at e<;>first|(cases e;done)|(rename_i hx;rw[hx];cases e;exact k)
 | iaddrS s x i=>
  simp only[lD]at e;simp only[ev];split at e
  ·rename_i hx hy;rw[hx,hy];split at e
   ·rename_i hs;refine⟨hs.1,hs.2,?_⟩;split at e
    ·rename_i hi;rw[hi];cases e;exact k
    ·cases e
   ·cases e
  ·rename_i hx hy;rw[hx,hy];split at e
   ·rename_i hs;cases e;exact⟨hs.1,hs.2.1,hs.2.2,k⟩
   ·cases e
  ·cases e
 | idxS x i=>
  simp only[lD]at e;simp only[ev];split at e
  ·rename_i hx hy;rw[hx,hy];split at e
   ·rename_i hs;refine⟨hs,?_⟩;split at e
    ·rename_i hi;rw[hi];cases e;exact k
    ·cases e
   ·cases e
  ·cases e
 | len x=>
  simp only[lD]at e;simp only[ev];split at e
  ·rename_i hx;rw[hx];cases e;exact k
  ·rename_i hx;rw[hx];split at e
   ·rename_i hb;simp only[a.arr hb];split at e
    ·rename_i hs;cases e;exact⟨hs,k⟩
    ·cases e
   ·cases e
  ·cases e
 |lenS x=>
  simp only[lD]at e;simp only[ev];split at e
  ·rename_i hx;rw[hx];cases e;exact k
  ·cases e
 |nilck x=>
  simp only[lD]at e;simp only[ev];split at e<;>first|(cases e;done)|(rename_i hx;rw[hx];cases e;exact k)
 | extract x i=>
  simp only[lD]at e;simp only[ev];split at e
  ·rename_i hx;rw[hx];split at e
   ·rename_i hi;simp only[hi];cases e;exact k
   ·cases e
  ·cases e
 | slice s x lo hi=>
  simp only[lD]at e;simp only[ev];split at e
  ·rename_i hx;rw[hx];split at e
   ·rename_i h1 h2;split at e
    ·rename_i hs;cases e;exact⟨hs.1,De h1 (De h2 ⟨hs.2.1,hs.2.2,k⟩)⟩
    ·cases e
   ·cases e
  ·rename_i hx;rw[hx];split at e
   ·rename_i h1 h2;split at e
    ·rename_i hs;cases e;exact⟨hs.1,De h1 (De h2 ⟨hs.2.1,hs.2.2,k⟩)⟩
    ·cases e
   ·cases e
  ·cases e
 | sliceS x lo hi=>
  simp only[lD]at e;simp only[ev];split at e
  ·rename_i hx;rw[hx];split at e
   ·rename_i h1 h2;split at e
    ·rename_i hs;cases e;exact De h1 (De h2 ⟨hs.1,hs.2,k⟩)
    ·cases e
   ·cases e
  ·cases e
 | append s bytes x y=>
  simp only[lD]at e;simp only[ev];split at e
  ·rename_i hx;rw[hx];split at e
   ·rename_i hb hs;simp only[a.arr hb];split at e
    ·rename_i hh;cases e;exact⟨hh.1,hh.2.1,hh.2.2.1,hh.2.2.2.1,hnn,IV a hs ⟨hh.2.2.2.2.1,hh.2.2.2.2.2,k⟩⟩
    ·cases e
   ·cases e
  ·rename_i hx;rw[hx];split at e
   ·rename_i hs;split at e
    ·rename_i hh;cases e;exact⟨hnn,IV a hs ⟨hh,k⟩⟩
    ·cases e
   ·cases e
  ·cases e
 | copy s x y=>
  simp only[lD]at e;simp only[ev];split at e
  ·rename_i hx;rw[hx];split at e
   ·rename_i hb hs;simp only[a.arr hb];split at e
    ·rename_i hh;cases e;exact⟨hh.1,hh.2.1,hh.2.2.1,IV a hs ⟨hh.2.2.2,k⟩⟩
    ·cases e
   ·cases e
  ·cases e
 | mkslM z bytes x y=>
  simp only[lD]at e;simp only[ev];split at e
  ·rename_i hx hy;rw[hx,hy];split at e
   ·rename_i hh;cases e;exact⟨hh.1,hh.2.1,hh.2.2,hnn,k⟩
   ·cases e
  ·cases e
 | minI mx x y=>
  simp only[lD]at e;simp only[ev];split at e
  ·rename_i hx hy;rw[hx,hy];split at e
   ·rename_i hh;cases e;exact⟨hh,k⟩
   ·cases e
  ·cases e
 |toBs x=>
  simp only[lD]at e;simp only[ev];split at e
  ·rename_i hx;rw[hx];cases e;exact k
  ·cases e
 | toStr x=>
  simp only[lD]at e;simp only[ev];split at e
  ·rename_i hs;split at e
   ·rename_i l hl;split at e
    ·rename_i hh;cases e;exact IV a hs ⟨l,hl,hh,k⟩
    ·cases e
   ·cases e
  ·cases e
 | isNil ne x=>
  simp only[lD]at e;simp only[ev];split at e
  ·rename_i hx;rw[hx];cases e;exact k
  ·rename_i hx;rw[hx];cases e;exact k
  ·rename_i hx;rw[hx];split at e
   ·rename_i hh;cases e;exact⟨hh,k⟩
   ·cases e
  ·cases e
 | iaddrA len s x i=>
  simp only[lD]at e;simp only[ev];split at e
  ·rename_i hx hy;rw[hx,hy];split at e
   ·rename_i hh;cases e;exact⟨hh.1,hh.2,k⟩
   ·cases e
  ·rename_i hx hy;rw[hx,hy];split at e
   ·rename_i hh;cases e;exact⟨hh.1,hh.2,k⟩
   ·cases e
  ·cases e
 | mkifc T ag x=>
  simp only[lD]at e;simp only[ev];split at e
  ·rename_i hx;rw[hx];split at e
   ·rename_i hh;cases e;exact⟨hh,k⟩
   ·cases e
  ·rename_i hx;rw[hx];split at e
   ·rename_i cs hb;simp only[a.box hb];split at e
    ·rename_i ds l hf;split at e
     ·rename_i hh;cases e;simp only[LP a hf];exact⟨hh,k⟩
     ·cases e
    ·cases e
   ·cases e
  ·cases e
 |isNilP ne x=>
  simp only[lD]at e;simp only[ev];split at e<;>first|(cases e;done)|(rename_i hx;rw[hx];cases e;exact k)
 |callM f xs=>
  simp only[lD]at e;simp only[ev];exact LQ hC a hn e k
 | mkfn f caps=>
  simp only[lD]at e;simp only[ev];split at e
  ·rename_i hx;rw[hx];split at e
   ·rename_i hd;simp only[hd];cases e;exact k
   ·rename_i hd;simp only[hd];cases e;exact k
  ·cases e
 |calldM x xs=>
  simp only[lD]at e;simp only[ev];split at e
  ·rename_i hx;rw[hx];exact LQ hC a hn e k
  ·rename_i hx;rw[hx];exact LQ hC a hn e k
  ·cases e
 |_=>simp[lD]at e
end
end Go.Abs
namespace Go.Abs
variable [jQ]
structure ES where
 t:List (Nat × AV)
 l:List Blk
def ug:List Blk->Nat->Blk->Option (List Blk)
|[],0,x=>some [x]
|[],_+1,_=>none
|_::l,0,x=>some (x::l)
|y::l,n+1,x=>match ug l n x with
 |some r=>some (y::r)
 |none=>none
def Rw:∀{l:List Blk} {n:Nat} {x:Blk} {r:List Blk},ug l n x=some r->hpOf r=upd (hpOf l) n x
| [],0,x,r,e=>by
 simp only[ug]at e;cases e;funext j;by_cases h:j=0
 ·subst h;rw[zae];rfl
 ·rw[zah _ _ h];obtain⟨i,rfl⟩:=Nat.exists_eq_succ_of_ne_zero h;rfl
|[],n+1,x,r,e=>by simp[ug]at e
| y::l,0,x,r,e=>by
 simp only[ug]at e;cases e;funext j;by_cases h:j=0
 ·subst h;rw[zae];rfl
 ·rw[zah _ _ h];obtain⟨i,rfl⟩:=Nat.exists_eq_succ_of_ne_zero h;rfl
| y::l,n+1,x,r,e=>by
 simp only[ug]at e;split at e
 ·rename_i q hq;cases e;have ih:=Rw hq;funext j;cases j with
  |zero=>rw[zah _ _ (by omega)];rfl
  |succ j=>
   have h1:=congrFun ih j;show hpOf q j=_;rw[h1];by_cases h:j=n
   ·subst h;rw[zae,zae]
   ·rw[zah _ _ h,zah _ _ (by omega)];rfl
 ·cases e
def Df(k:Nat):List Blk->List (Nat × Blk)->Option (List Blk)
|l,[]=>some l
|l,(b,x)::r=>if b<k||k+k<=b then(match ug l b x with
 |some q=>Df k q r
 |none=>none)else none
def Rx{k:Nat}:∀{wr:List (Nat × Blk)} {l q:List Blk},Df k l wr=some q->hpOf q=jc (hpOf l) wr/\∀p,p∈wr->p.1<k\/k+k<=p.1
|[],l,q,e=>by simp only[Df]at e;cases e;exact⟨rfl,λp hp=>by cases hp⟩
| (b,x)::wr,l,q,e=>by
 simp only[Df]at e;split at e
 ·rename_i hb;split at e
  ·rename_i r hr;obtain⟨h1,h2⟩:=Rx e;refine⟨by rw[h1,Rw hr];rfl,λp hp=>?_⟩;rcases aS.1 hp with rfl|hp
   ·simpa using hb
   ·exact h2 p hp
  ·cases e
 ·cases e
def IW(C:CE)(k:Nat)(op:mP)(dst:Option Nat)(S:ES):Option (ES × FP):=
 match lD C (look S.t) (hpOf S.l) S.l.length op with
 |some (v,rd,wr,n)=>match Df k S.l wr with
  |some l=>if l.length=n then some (⟨match dst with|some d=>(d,v)::S.t|none=>S.t,l⟩,(rd,wr.map (·.1)))else none
  |none=>none
 |none=>none
def zV(dst:Option Nat)(v:AV)(S:ES):ES:=⟨match dst with|some d=>(d,v)::S.t|none=>S.t,S.l⟩
def wz (C:CE) (k:Nat):List MO->ES->List FP->Option (ES × List FP)
|[],S,f=>some (S,f.reverse)
| o ::os,S,f=>match o.g with
 |none=>(match IW C k o.op o.dst S with
  |some (S',p)=>wz C k os S' (p::f)
  |none=>none)
 | some (t,want)=>match look S.t t with
  | .c (.d (.bool b))=>if b=want then(match IW C k o.op o.dst ⟨(t,.c (.d (.bool want)))::S.t,S.l⟩with
    |some (S',p)=>wz C k os S' (p::f)
    |none=>none)
   else wz C k os (zV o.dst kQ ⟨(t,.c (.d (.bool (!want))))::S.t,S.l⟩) (([],[])::f)
  |.c (.d (.sc (.tuple _)))=>wz C k os (zV o.dst kQ S) (([],[])::f)
  |_=>none
def pV (C:CE) (k:Nat):Nat->MC->ES->Option (Exit × ES)
|0,_,_=>none
| n+1,mc,S=>match mc with
 |.skip=>some (.normal,S)
 |.reg os=>(match wz C k os S []with
  |some (S',_)=>some (.normal,S')
  |none=>none)
 |.regd bef os=>(match wz C k os S []with
  |some (S',fps)=>if uY bef fps=true then some (.normal,S')else none
  |none=>none)
 |.seq a b=>(match pV C k n a S with
  |some (.normal,S')=>pV C k n b S'
  |r=>r)
 | .cond x a b=>(match X (look S.t) x with
  |.c (.d (.bool t))=>(match t with
   |true=>pV C k n a S
   |false=>pV C k n b S)
  |_=>none)
 |.block i b=>(match pV C k n b S with
  |some (.exit j,S')=>if j=i then some (.normal,S')else some (.exit j,S')
  |r=>r)
 |.loop b=>(match pV C k n b S with
  |some (.normal,S')=>pV C k n (.loop b) S'
  |r=>r)
 |.exit i=>some (.exit i,S)
 |.ret=>some (.ret,S)
 |_=>none
structure RS (k:Nat) (ts:List (Nat × Nat)) (S:ES) (X:St):Prop where
 t:X.t=S.t
 n:X.n=S.l.length
 agr:qp (hpOf S.l) X.m
 pin:∀j t,ts[j]?=some t->X.m (k+j)=.pin t j
 ts:ts.length=k
def Ry:∀{wr:List (Nat × Blk)} {h m:Hp},qp h m->qp (jc h wr) (jc m wr)
|[],_,_,a=>a
|(b,x)::wr,h,m,a=>by
 refine Ry (wr:=wr) λj=>?_;by_cases hj:j=b
 ·subst hj;rw[zae,zae];exact .inr rfl
 ·rw[zah _ _ hj,zah _ _ hj];exact a j
def SA:∀{wr:List (Nat × Blk)} {m:Hp} {j:Nat},(∀p,p∈wr->p.1≠j)->jc m wr j=m j
|[],_,_,_=>rfl
|(b,x)::wr,m,j,h=>by
 have h1:=SA (wr:=wr) (m:=upd m b x) (j:=j) λp hp=>h p (by simp[hp]);show jc (upd m b x) wr j=_;rw[h1,zah _ _ (λe=>h (b,x) (by simp) e.symm)]
section
variable {P:Program} {C:CE} {k:Nat} {ts:List (Nat × Nat)}
def RS.step{S:ES}{X:St}(r:RS k ts S X){v:AV}{wr:List (Nat × Blk)}{n:Nat}{l:List Blk}(e:Df k S.l wr=some l)(hn:l.length=n)(dst:Option Nat):
  RS k ts ⟨match dst with|some d=>(d,v)::S.t|none=>S.t,l⟩ (X.put dst v wr n):=by
 obtain⟨e1,e2⟩:=Rx e;refine⟨?_,hn.symm,?_,λj t hj=>?_,r.ts⟩
 ·cases dst<;>simp[St.put,r.t]
 ·show qp (hpOf l) (jc X.m wr);rw[e1];exact Ry r.agr
 ·show jc X.m wr (k+j)=_;have hjl:j<k:=by
   have:=r.ts;rcases aX j ts.length with h|h
   ·omega
   ·rw[aM h]at hj;cases hj
  rw[SA λp hp e=>by rcases e2 p hp with h|h<;>omega];exact r.pin j t hj
def RS.put{S:ES}{X:St}(r:RS k ts S X)(dst:Option Nat)(v:AV):RS k ts (zV dst v S) (X.put dst v [] X.n):=by
 refine⟨?_,r.n,r.agr,r.pin,r.ts⟩;cases dst<;>simp[St.put,zV,r.t]
def RS.know{S:ES}{X:St}(r:RS k ts S X)(t:Nat)(b:Bool):RS k ts ⟨(t,.c (.d (.bool b)))::S.t,S.l⟩ (X.know t b):=by
 refine⟨?_,r.n,r.agr,r.pin,r.ts⟩;simp[St.know,r.t]
def IX(hC:∀f ι bs v bs',C f ι bs=some (v,bs')->MCall P f ι bs v bs'){op:mP}{dst:Option Nat}{S S':ES}{p:FP}(e:IW C k op dst S=some (S',p)){X:St}(r:RS k ts S X){K:AV->List Nat->List (Nat × Blk)->Nat->Prop}
  (hK:∀v rd wr n,RS k ts S' (X.put dst v wr n)->p=(rd,wr.map (·.1))->K v rd wr n):ev P X.get X.m X.n K op:=by
 unfold IW at e;split at e
 ·rename_i v rd wr n he;split at e
  ·rename_i l hl;split at e
   ·rename_i hn;simp only[aO,ax]at e;obtain⟨rfl,rfl⟩:=e;have hg:X.get=look S.t:=by funext j;show look X.t j=_;rw[r.t]
    rw[hg,r.n];refine zgc hC r.agr (λj hj=>zQ hj) he (hK _ _ _ _ ?_ rfl);have:=r.step (v:=v) hl hn dst;exact this
   ·cases e
  ·cases e
 ·cases e
def En(hC:∀f ι bs v bs',C f ι bs=some (v,bs')->MCall P f ι bs v bs'):∀{os:List MO} {S S':ES} {f fps:List FP} {X:St} {K:St->Prop},wz C k os S f=some (S',fps)->RS k ts S X->(∀X',RS k ts S' X'->K X')->oP P os X K
|[],S,S',f,fps,X,K,e,r,h=>by
 simp only[wz,aO,ax]at e;obtain⟨rfl,rfl⟩:=e;exact h _ r
| o ::os,S,S',f,fps,X,K,e,r,h=>by
 unfold wz at e;unfold oP;split at e
 ·rename_i hg;rw[hg];simp only;split at e
  ·rename_i S1 p h1;exact IX hC h1 r λv rd wr n r' _=>En hC e r' h
  ·cases e
 ·rename_i t want hg;rw[hg];have hx:X.get t=look S.t t:=by show look X.t t=_;rw[r.t]
  simp only[hx];split at e
  ·rename_i b hb;rw[hb];split at e
   ·rename_i hw;subst hw;split at e
    ·rename_i S1 p h1;refine⟨λ_=>?_,λhh=>by cases b<;>cases hh⟩;have r1:=r.know t b;exact IX hC (X:=X.know t b) h1 r1 λv rd wr n r' _=>En hC e r' h
    ·cases e
   ·rename_i hw;refine⟨λhh=>absurd hh hw,λ_=>?_⟩;exact En hC e ((r.know t (!want)).put o.dst kQ) h
  ·rename_i x hb;rw[hb];exact En hC e (r.put o.dst kQ) h
  ·cases e
def Eo(hC:∀f ι bs v bs',C f ι bs=some (v,bs')->MCall P f ι bs v bs'):∀{os:List MO} {S S':ES} {f fps:List FP} {X:St} {K:St->List FP->Prop},wz C k os S f=some (S',fps)->RS k ts S X->(∀X',RS k ts S' X'->K X' fps)->lX P os X f K
|[],S,S',f,fps,X,K,e,r,h=>by
 simp only[wz,aO,ax]at e;obtain⟨rfl,rfl⟩:=e;exact h _ r
| o ::os,S,S',f,fps,X,K,e,r,h=>by
 unfold wz at e;unfold lX;split at e
 ·rename_i hg;rw[hg];simp only;split at e
  ·rename_i S1 p h1;exact IX hC h1 r λv rd wr n r' hp=>by subst hp;exact Eo hC e r' h
  ·cases e
 ·rename_i t want hg;rw[hg];have hx:X.get t=look S.t t:=by show look X.t t=_;rw[r.t]
  simp only[hx];split at e
  ·rename_i b hb;rw[hb];split at e
   ·rename_i hw;subst hw;split at e
    ·rename_i S1 p h1;refine⟨λ_=>?_,λhh=>by cases b<;>cases hh⟩;have r1:=r.know t b;exact IX hC (X:=X.know t b) h1 r1 λv rd wr n r' hp=>by subst hp;exact Eo hC e r' h
    ·cases e
   ·rename_i hw;refine⟨λhh=>absurd hh hw,λ_=>?_⟩;exact Eo hC e ((r.know t (!want)).put o.dst kQ) h
  ·rename_i x hb;rw[hb];exact Eo hC e (r.put o.dst kQ) h
  ·cases e
def AW.loopI{c:Ctx}{body:MC}{Q:Exit->St->Prop}(I:Nat->St->Prop)(round:∀n X,I n X->AW P c body (vg (λX'=>∃n',n'<n/\I n' X') Q) X){n0:Nat}{X0:St}(h0:I n0 X0):AW P c (.loop body) Q X0:=by
 intro code hc a w r;cases code with
 | loop b=>
  simp only[iH]at hc;intro fr k cs
  have key:∀n:Nat,∀X,I n X->∀a w,kR P c X.get X.m a w->
    ∃e a' w',(∃S':St,kR P c S'.get S'.m a' w'/\Q e S')/\Arrives P (lone (fr.at a (.code b::.inLoop b::k)) cs w) fr k cs e a' w':=by
   intro n
   induction n using Nat.strongRecOn with
   | _ n ih=>
    intro X hX a w r;obtain⟨e,a₁,w₁,⟨S',r',q⟩,harr⟩:=round n X hX b hc a w r fr (.inLoop b::k) cs;cases e with
    |normal=>
     obtain⟨n',hlt,hX'⟩:=q;obtain⟨e₂,a₂,w₂,hq₂,harr₂⟩:=ih n' hlt S' hX' a₁ w₁ r';exact⟨e₂,a₂,w₂,hq₂,.of_steps (Steps.trans harr (.one step_inLoop)) harr₂⟩
    |exit id=>exact⟨_,a₁,w₁,⟨S',r',q⟩,.pass (x:=.inLoop b) rfl (λ_ _=>.inl (by simp)) harr⟩
    |goto l=>exact⟨_,a₁,w₁,⟨S',r',q⟩,.pass (x:=.inLoop b) rfl (λ_ _=>.inl (by simp)) harr⟩
    |ret=>exact⟨_,a₁,w₁,⟨S',r',q⟩,.pass (x:=.inLoop b) rfl (λ_ _=>.inl (by simp)) harr⟩
    |panic ch=>exact⟨_,a₁,w₁,⟨S',r',q⟩,.pass (x:=.inLoop b) rfl (λ_ _=>.inl (by simp)) harr⟩
    |outgrown=>exact⟨_,a₁,w₁,⟨S',r',q⟩,.pass (x:=.inLoop b) rfl (λ_ _=>.inl (by simp)) harr⟩
  obtain⟨e,a',w',hq,harr⟩:=key n0 X0 h0 a w r;exact⟨e,a',w',hq,.of_steps (.one step_loop) harr⟩
 |_=>simp[iH]at hc
def SC(hm:P.follows .mixedOrders=true)(hC:∀f ι bs v bs',C f ι bs=some (v,bs')->MCall P f ι bs v bs'){c:Ctx}:∀(n:Nat) {mc:MC} {S S':ES} {e:Exit} {X:St} {Q:Exit->St->Prop},pV C k n mc S=some (e,S')->RS k ts S X->(∀X',RS k ts S' X'->Q e X')->AW P c mc Q X:=by
 intro n
 induction n using Nat.strongRecOn with
 |_ n ih=>
 intro mc S S' e X Q h r q;cases n with
 |zero=>simp[pV]at h
 |succ n=>
 cases mc with
 |skip=>simp only[pV,aO,ax]at h;obtain⟨rfl,rfl⟩:=h;exact AW.skip (q _ r)
 |exit i=>simp only[pV,aO,ax]at h;obtain⟨rfl,rfl⟩:=h;exact AW.exit (q _ r)
 |ret=>simp only[pV,aO,ax]at h;obtain⟨rfl,rfl⟩:=h;exact AW.ret (q _ r)
 | reg os=>
  simp only[pV]at h;split at h
  ·rename_i S1 fps h1;simp only[aO,ax]at h;obtain⟨rfl,rfl⟩:=h;exact AW.reg (En hC h1 r q)
  ·cases h
 | regd bef os=>
  simp only[pV]at h;split at h
  ·rename_i S1 fps h1;split at h
   ·rename_i hf;simp only[aO,ax]at h;obtain⟨rfl,rfl⟩:=h;exact AW.regd hm (Eo hC h1 r λX' r'=>⟨hf,q X' r'⟩)
   ·cases h
  ·cases h
 | seq x y=>
  simp only[pV]at h;refine AW.seq ?_;split at h
  ·rename_i S1 h1;exact ih n (by omega) h1 r λX' r'=>ih n (by omega) h r' q
  ·rename_i hne;refine ih n (by omega) h r λX' r'=>?_;cases e with
   |normal=>exact(hne _ h).elim
   |_=>exact q X' r'
 | cond x y z=>
  simp only[pV]at h;have hx:X.get=look S.t:=by funext j;show look X.t j=_;rw[r.t]
  split at h
  ·rename_i t ht;rw[<-hx]at ht;cases t with
   |true=>exact AW.cond ht (λ_=>ih n (by omega) h r q) (λhh=>by cases hh)
   |false=>exact AW.cond ht (λhh=>by cases hh) (λ_=>ih n (by omega) h r q)
  ·cases h
 | block i b=>
  simp only[pV]at h;refine AW.block ?_;split at h
  ·rename_i j S1 h1;refine ih n (by omega) h1 r λX' r'=>?_;split at h
   ·rename_i hj;simp only[aO,ax]at h;obtain⟨rfl,rfl⟩:=h;simp only[yU];rw[aB hj];exact q X' r'
   ·rename_i hj;simp only[aO,ax]at h;obtain⟨rfl,rfl⟩:=h;simp only[yU];rw[aA hj];exact q X' r'
  ·rename_i hne;refine ih n (by omega) h r λX' r'=>?_;cases e with
   |exit j=>exact(hne _ _ h).elim
   |_=>exact q X' r'
 | loop b=>
  refine AW.loopI (λj X=>∃S,RS k ts S X/\j<=n+1/\pV C k j (.loop b) S=some (e,S')) (λj X ⟨S,r,hj,h⟩=>?_) (n0:=n+1) ⟨S,r,aK _,h⟩;cases j with
  |zero=>simp[pV]at h
  | succ j=>
   simp only[pV]at h;split at h
   ·rename_i S1 h1;exact ih j (by omega) h1 r λX' r'=>⟨j,by omega,S1,r',by omega,h⟩
   ·rename_i hne;refine ih j (by omega) h r λX' r'=>?_;cases e with
    |normal=>exact(hne _ h).elim
    |_=>exact q X' r'
 |_=>simp[pV]at h
end
def pu (S:ES):List MR->Option (List AV)
|[]=>some []
|.tmp t::rs=>(match pu S rs with
 |some vs=>some (look S.t t::vs)
 |none=>none)
| .cell t ag sz::rs=>(match(match look S.t t with
  |.c (.d (.rp cs off))=>IU ag sz cs off
  |.c (.ptr b off)=>(match hpOf S.l b with
   |.box cs=>El ag sz cs off
   |_=>none)
  |_=>none),pu S rs with
 |some v,some vs=>some (v::vs)
 |_,_=>none)
def Ep{k:Nat}{ts:List (Nat × Nat)}{S:ES}{X:St}(r:RS k ts S X):∀{rs:List MR} {vs:List AV} {K:List AV->Prop},pu S rs=some vs->K vs->vo X rs K
|[],vs,K,e,h=>by simp only[pu]at e;cases e;exact h
| .tmp t::rs,vs,K,e,h=>by
 simp only[pu]at e;split at e
 ·rename_i ws hw;cases e;show vo X rs λvs=>K (X.get t::vs);have hx:X.get t=look S.t t:=by show look X.t t=_;rw[r.t]
  rw[hx];exact Ep r hw h
 ·cases e
| .cell t ag sz::rs,vs,K,e,h=>by
 simp only[pu]at e;split at e
 ·rename_i v ws hv hw;cases e;show vk X (λv=>vo X rs λvs=>K (v::vs)) (.cell t ag sz);have hx:X.get t=look S.t t:=by show look X.t t=_;rw[r.t]
  simp only[vk,hx];have hrest:=Ep (K:=λvs=>K (v::vs)) r hw h;split at hv
  ·rename_i hc;rw[hc];exact Rs hv hrest
  ·rename_i b off hc;rw[hc];split at hv
   ·rename_i hb;simp only[r.agr.box hb];exact LM hv hrest
   ·cases hv
  ·cases hv
 ·cases e
def xY(args:List AV)(N:Nat)(bs:List Blk)(v:AV)(bs':List Blk):Bool:=
 decide (args.length<=N)&&((bs.all λb=>b.tag !=0)&&(decide (bs.length<=bs'.length)&&((bs'.all λb=>b.tag !=0)&&(((bs'.drop bs.length).all λb=>b.tag==2)&&(v.lv (live bs')&&(bs'.all λb=>b.lv (live bs')))))))
def zfL{args:List AV}{N:Nat}{bs:List Blk}{v:AV}{bs':List Blk}(h:xY args N bs v bs'=true):oC args N bs v bs':=by
 unfold xY at h;simp only[aC,aI]at h;exact⟨h.1,h.2.1,h.2.2.1,h.2.2.2.1,h.2.2.2.2.1,h.2.2.2.2.2.1,h.2.2.2.2.2.2⟩
def qW:Nat->Nat->List Nat
|_,0=>[]
|i,n+1=>i::qW (i+1) n
def xZ(k:Nat)(S:ES)(vs:List AV):Option (AV × List Blk):=
 let v:=one? vs;let L:=gJ (qW 0 k) ((vN (hpOf S.l) 10000 (gJ (qW 0 k) v.refs) []).filter λj=>decide (k+k<=j));let g:=λb=>tH L b 0;let q:=λb=>gm L (g b)==b&&wB L b
 if decide L.Nodup&&v.lv q&&L.all (λj=>(hpOf S.l j).lv q)then some (v.ren g,yX g (hpOf S.l) L)else none
abbrev TE:=FuncId->Option (Nat × MC × List MR)
def Bg (T:TE) (X:CE) (fuel:Nat):Nat->CE
|0=>X
| d +1=>λf args bs=>match T f with
 |none=>X f args bs
 | some (N,mc,rs)=>match pV (Bg T X fuel d) bs.length fuel mc ⟨nP 0 args,bs++List.replicate bs.length .dead⟩with
  | some (e,S)=>match e with
   | .ret=>(match pu S rs with
    |some vs=>(match xZ bs.length S vs with
     |some (v,bs')=>if xY args N bs v bs' then some (v,bs')else none
     |none=>none)
    |none=>none)
   | .normal=>(match pu S rs with
    |some vs=>(match xZ bs.length S vs with
     |some (v,bs')=>if xY args N bs v bs' then some (v,bs')else none
     |none=>none)
    |none=>none)
   |_=>none
  |none=>none
def IY:∀i n,(qW i n).length=n
|_,0=>rfl
|i,n+1=>by simp[qW,IY (i+1) n]
def LU:∀i n j,j<n->(qW i n)[j]?=some (i+j)
|i,0,j,h=>by omega
|i,n+1,0,h=>rfl
|i,n+1,j+1,h=>by
 show(qW (i+1) n)[j]?=_;rw[LU (i+1) n j (by omega)];congr 1;omega
def LV{α:Type}:∀a b:List α,gJ a b=a++b
|[],b=>rfl
|x::a,b=>by simp[gJ,LV a b]
def SG(g:Nat->Nat)(h:Hp):∀l,(yX g h l).length=l.length
|[]=>rfl
|x::l=>by simp[yX,SG g h l]
def SH{X:St}{l:List Nat}{h:Hp}{g:Nat->Nat}{q:Nat->Bool}(a:qp h X.m)(H:∀b,q b=true->gm l (g b)=b):∀js:List Nat,js.all (λj=>(h j).lv q)=true->mY X l js (yX g h js)
|[],_=>trivial
|j::js,hl=>by
 simp only[List.all_cons,aC]at hl;refine⟨?_,SH a H js hl.2⟩;rcases a j with e|e
 ·left;rw[e];rfl
 ·right;rw[e,Blk.ren_back H hl.1]
def SI{X:St}{l:List Nat}:∀{ts:List (Nat × Nat)} {js qs:List Nat} {bs:List Blk},ts.length<=js.length->ts.length<=qs.length->ts.length<=bs.length->(∀i t,ts[i]?=some t->X.m (qs.getD i 0)=.pin t (js.getD i 0))->lN X l js qs ts bs
|[],_,_,_,_,_,_,_=>by unfold lN;trivial
|t::ts,[],_,_,h,_,_,_=>by simp at h
|t::ts,j::js,[],_,_,h,_,_=>by simp at h
|t::ts,j::js,q::qs,[],_,_,h,_=>by simp at h
|t::ts,j::js,q::qs,b::bs,h1,h2,h3,h=>by
 refine⟨.inr (by simpa using h 0 t rfl),SI (by simpa using h1) (by simpa using h2) (by simpa using h3) λi t' e=>?_⟩;have:=h (i+1) t' (by simpa using e);simpa using this
section
variable {P:Program}
def SK{k:Nat}{ts:List (Nat × Nat)}{S:ES}{X:St}(r:RS k ts S X){vs:List AV}{v:AV}{bs':List Blk}(e:xZ k S vs=some (v,bs')):kw v bs' ts vs X:=by
 unfold xZ at e;simp only at e;split at e
 ·rename_i hh;simp only[aC,aI]at hh;obtain⟨⟨h1,h2⟩,h3⟩:=hh;simp only[aO,ax]at e;obtain⟨rfl,rfl⟩:=e;generalize hL:gJ (qW 0 k) ((vN (hpOf S.l) 10000 (gJ (qW 0 k) (one? vs).refs) []).filter λj=>decide (k+k<=j))=L at h1 h2 h3⊢;have hpre:∀j,j<k->L[j]?=some j:=λj hj=>by
   rw[<-hL,LV,ay (by rw[IY];exact hj),LU 0 k j hj];simp
  have hlen:k<=L.length:=by rw[<-hL,LV,aR,IY];omega
  have H:∀b,(gm L (tH L b 0)==b&&wB L b)=true->gm L (tH L b 0)=b:=λb hb=>by
   simp only[aC,aV]at hb;exact hb.1
  refine eO L (qW k k) ⟨h1,(AV.ren_back H _ h2).symm,SH r.agr H L h3,SI ?_ ?_ ?_ λi t hi=>?_⟩
  ·rw[r.ts];exact hlen
  ·rw[r.ts,IY];exact aK _
  ·rw[r.ts,SG];exact hlen
  ·have hik:i<k:=by
    have:=r.ts;rcases aX i ts.length with h|h
    ·omega
    ·rw[aM h]at hi;cases hi
   rw[aF,LU k k i hik,aF,hpre i hik];exact r.pin i t hi
 ·cases e
def zfj{args:List AV}{bs:List Blk}{ts:List (Nat × Nat)}(hts:ts.length=bs.length):RS bs.length ts ⟨nP 0 args,bs++List.replicate bs.length .dead⟩ ⟨nP 0 args,hpOf (bs++pq 0 ts),bs.length+ts.length⟩:=by
 refine⟨rfl,by simp[hts],λb=>?_,λj t hj=>?_,hts⟩
 ·show hpOf (bs++List.replicate bs.length .dead) b=.dead\/hpOf (bs++pq 0 ts) b=hpOf (bs++List.replicate bs.length .dead) b;unfold hpOf;simp only[aF];rcases aX b bs.length with h|h
  ·right;rw[ay h,ay h]
  ·rw[bC h,bC h,List.getElem?_replicate];split
   ·left;rfl
   ·right;rw[aM (by rw[LB];omega)]
 ·show hpOf (bs++pq 0 ts) (bs.length+j)=_;unfold hpOf;rw[aF,bC (by omega),bX,LC,hj];simp
def LW (hm:P.follows .mixedOrders=true) {T:TE} (hT:∀f N mc rs,T f=some (N,mc,rs)->∃fn,P.funcs[f]?=some fn/\tF P fn N mc rs=true) {X:CE} (hX:∀f args bs v bs',X f args bs=some (v,bs')->MCall P f args bs v bs') (fuel:Nat):∀(d:Nat) (f:FuncId) (args:List AV) (bs:List Blk) (v:AV) (bs':List Blk),Bg T X fuel d f args bs=some (v,bs')->MCall P f args bs v bs':=by
 intro d
 induction d with
 |zero=>intro f args bs v bs' h;exact hX _ _ _ _ _ h
 | succ d ih=>
  intro f args bs v bs' h;simp only[Bg]at h;split at h
  ·exact hX _ _ _ _ _ h
  ·rename_i N mc rs hTf;obtain⟨fn,hfn,hw⟩:=hT _ _ _ _ hTf;unfold tF at hw;simp only[aC,aI]at hw;obtain⟨⟨eN,hnm⟩,hc,hr⟩:=hw;subst eN;cases hb:fn.body with
   |none=>rw[hb]at hc;cases hc
   | some b=>
    rw[hb]at hc;split at h
    ·rename_i e S hex;have main:∀{vs:List AV},pu S rs=some vs->xZ bs.length S vs=some (v,bs')->xY args fn.ntmps bs v bs'=true->(e=.ret\/e=.normal)->MCall P f args bs v bs':=by
      intro vs h1 h2 h3 he;have hs:=zfL h3;refine MCall.of_walk hfn hb hnm hc hr hs.1 (yV hs.2.1) hs.2.2.1 (yV hs.2.2.2.1) (LD hs.2.2.2.2.1) hs.2.2.2.2.2.1 (λb hb=>aZ.1 hs.2.2.2.2.2.2 b hb) λts hts _ _ c _ _=>?_;refine SC hm ih fuel hex (zfj hts) λX' r'=>?_;rcases he with rfl|rfl
      ·exact Ep r' h1 (SK r' h2)
      ·exact Ep r' h1 (SK r' h2)
     cases e with
     | ret=>
      simp only at h;split at h
      ·rename_i vs h1;split at h
       ·rename_i v0 b0 h2;split at h
        ·rename_i h3;simp only[aO,ax]at h;obtain⟨rfl,rfl⟩:=h;exact main h1 h2 h3 (.inl rfl)
        ·cases h
       ·cases h
      ·cases h
     | normal=>
      simp only at h;split at h
      ·rename_i vs h1;split at h
       ·rename_i v0 b0 h2;split at h
        ·rename_i h3;simp only[aO,ax]at h;obtain⟨rfl,rfl⟩:=h;exact main h1 h2 h3 (.inr rfl)
        ·cases h
       ·cases h
      ·cases h
     |_=>simp at h
    ·cases h
end
mutual
def SL{h m:Hp}(a:qp h m):∀(f:Nat) (x:AC) (d:D),jH h f x=some d->jH m f x=some d
|f,.d x,d,e=>by unfold jH at e⊢;exact e
|f,.msl s b off len,d,e=>by
 unfold jH at e⊢;split at e
 ·rename_i hb;rw[a.arr hb];exact e
 ·cases e
| f+1,.ptr b off,d,e=>by
 unfold jH at e⊢;split at e
 ·rename_i cs hb;rw[a.box hb];simp only[aJ]at e⊢;obtain⟨ds,e1,e2⟩:=e;exact⟨ds,IZ a f cs ds e1,e2⟩
 ·cases e
|f+1,.fn g caps,d,e=>by
 unfold jH at e⊢;simp only[aJ]at e⊢;obtain⟨ds,e1,e2⟩:=e;exact⟨ds,IZ a f caps ds e1,e2⟩
|0,.ptr b off,d,e=>by unfold jH at e;cases e
|0,.fn g caps,d,e=>by unfold jH at e;cases e
|0,.ept s b i off,d,e=>by unfold jH at e;cases e
|_+1,.ept s b i off,d,e=>by unfold jH at e;cases e
|0,.map b,d,e=>by unfold jH at e;cases e
|_+1,.map b,d,e=>by unfold jH at e;cases e
|0,.op q,d,e=>by unfold jH at e;cases e
|_+1,.op q,d,e=>by unfold jH at e;cases e
def IZ{h m:Hp}(a:qp h m):∀(f:Nat) (x:List AC) (d:List D),qV h f x=some d->qV m f x=some d
|f,[],d,e=>by unfold qV at e⊢;exact e
| f,c::cs,d,e=>by
 unfold qV at e⊢;split at e
 ·rename_i x xs h1 h2;rw[SL a f c x h1,IZ a f cs xs h2];exact e
 ·cases e
end
mutual
def SN{h m:Hp}(a:qp h m):∀(x:AV) (d:DV),frzV h x=some d->frzV m x=some d
|.c x,d,e=>by
 unfold frzV at e⊢;simp only[aJ]at e⊢;obtain⟨y,e1,e2⟩:=e;exact⟨y,SL a _ _ _ e1,e2⟩
|.ag cs,d,e=>by
 unfold frzV at e⊢;simp only[aJ]at e⊢;obtain⟨y,e1,e2⟩:=e;exact⟨y,IZ a _ _ _ e1,e2⟩
|.tup vs,d,e=>by
 unfold frzV at e⊢;simp only[aJ]at e⊢;obtain⟨y,e1,e2⟩:=e;exact⟨y,SQ a _ _ e1,e2⟩
def SQ{h m:Hp}(a:qp h m):∀(x:List AV) (d:List DV),uL h x=some d->uL m x=some d
|[],d,e=>by unfold uL at e⊢;exact e
| v::vs,d,e=>by
 unfold uL at e⊢;split at e
 ·rename_i x xs h1 h2;rw[SN a v x h1,SQ a vs xs h2];exact e
 ·cases e
end
def I1 (T:TE) (X:CE) (fuel d:Nat) (f:FuncId) (args:List DV):Option DV:=match T f with
|none=>none
| some (N,mc,rs)=>if args.length<=N then(match pV (Bg T X fuel d) 0 fuel mc ⟨oQ 0 args,[]⟩with
  |some (.ret,S)=>(match pu S rs with
   |some vs=>(frzV (hpOf S.l) (one? vs)).map DV.er
   |none=>none)
  |_=>none)else none
def zgK{P:Program}(hm:P.follows .mixedOrders=true){T:TE}(hT:∀f N mc rs,T f=some (N,mc,rs)->∃fn,P.funcs[f]?=some fn/\tF P fn N mc rs=true){X:CE}(hX:∀f args bs v bs',X f args bs=some (v,bs')->MCall P f args bs v bs'){fuel d:Nat}{f:FuncId}{args:List DV}{v:DV}(h:I1 T X fuel d f args=some v):fu P f args v:=by
 unfold I1 at h;split at h
 ·cases h
 ·rename_i N mc rs hTf;obtain⟨fn,hfn,hw⟩:=hT _ _ _ _ hTf;unfold tF at hw;simp only[aC,aI]at hw;obtain⟨⟨eN,hnm⟩,hc,hr⟩:=hw;subst eN;cases hb:fn.body with
  |none=>rw[hb]at hc;cases hc
  | some b=>
   rw[hb]at hc;split at h
   ·rename_i hal;split at h
    ·rename_i S hex;split at h
     ·rename_i vs h1;refine fu.of_walk hfn hb hnm hc hr hal λ_ c _ _=>?_;refine SC (k:=0) (ts:=[]) hm (LW hm hT hX fuel d) fuel hex ⟨rfl,rfl,λb=>.inr rfl,λj t hj=>by simp at hj,rfl⟩ λX' r'=>?_;refine Ep r' h1 ?_;simp only[aJ]at h⊢;obtain⟨y,e1,e2⟩:=h;exact⟨y,SN r'.agr _ _ e1,e2⟩
     ·cases h
    ·cases h
   ·cases h
end Go.Abs
namespace Go.Abs
variable [jQ]
section
variable {P:Program}
def x8(c:Ctx)(v:DV)(e:Ending)(w':World):Prop:=∃(vC:Value) (h':PH),e=.returned vC/\c.h.le h'/\(∀B,B<c.w.heap.size->h' B=c.h B)/\(∀B o,h' B=some o->w'.heap[B]?=some o)/\
 c.w.heap.size<=w'.heap.size/\(∀B,B<c.w.heap.size->w'.heap[B]?=c.w.heap[B]?)/\Same c.w w'/\jZ h' v vC
def zgq{c:Ctx}{fn:Func}{rs:List MR}{v:DV}{S:St}{a:Act}{w':World}(h0:c.ρ=λ_=>none)(r:kR P c S.get S.m a w')(hr:ku P rs fn.results.toList=true)(hk:vo S rs λvs=>(frzV S.m (one? vs)).map DV.er=some v):
  ∃vC,(results fn a.tmps).run P w'=.ok vC w'/\x8 c v (.returned vC) w':=by
 obtain⟨ph',ρ',H,S0,e0,hg⟩:=r.ex;obtain⟨vs,kv,F⟩:=IE hr hk;simp only[aJ]at kv;obtain⟨v',kv,ev⟩:=kv;subst ev;obtain⟨us',g1,g2⟩:=F (a:=a) H hg;have hnew:∀b p,ρ' b=some p->Real (S.m b) p->c.w.heap.size<=p.1:=by
  intro b p h1 h2;rcases S0.own b p h1 h2 with h3|⟨c',q,h3,_⟩
  ·exact h3
  ·rw[h0]at h3;cases h3
 have free:∀B,jm c.ρ c.m B:=λB b p h1=>by rw[h0]at h1;cases h1
 have hres:fe P (results fn a.tmps) w' (vv us') w':=by
  unfold results;refine dz (a:=us'.toArray) (w':=w') ?_ ?_
  ·rw[cO];exact g1.map (f:=List.toArray)
  ·cases us' with
   |nil=>exact dx _
   |cons u us'=>
    cases us' with
    |nil=>exact dx _
    |cons u' us'=>exact dx _
 have hrep:RepV ph' ρ' (one? vs) (vv us'):=by
  cases vs with
  |nil=>
   simp only[zad]at g2;subst g2;simp only[one?,RepV];exact⟨[],rfl,rfl⟩
  | cons x xs=>
   cases us' with
   |nil=>simp[zad]at g2
   | cons u us'=>
    cases xs with
    |nil=>
     simp only[zad]at g2;rw[g2.2];exact g2.1
    | cons y ys=>
     cases us' with
     |nil=>simp[zad]at g2
     |cons u' us'=>
      simp only[one?,RepV];exact⟨_,rfl,g2⟩
 refine⟨_,hres,_,rT ph' c.w.heap.size w'.heap,rfl,PH.le_trans S0.hle (D6 H),λB hB=>?_,IA H,S0.size,λB hB=>S0.frame B hB (free B),e0,(Kr H hnew _ _ _ kv hrep).er⟩;unfold rT;rw[aB hB];exact S0.hlow B hB (free B)
def fu.of_defers {f : FuncId} {fn : Func} {code : Code} {args : List DV} {v : DV} (hf : P.funcs[f]? = some fn) (hb : fn.body = some code) (hname : (fn.name != "runtime.NumGoroutine") = true) (hn : args.length <= fn.ntmps)
  (h:DV.okL args->∀c:Ctx,c.N=fn.ntmps->c.D=[]->c.ρ=(λ_=>none)->c.m=(λ_=>.non)->∀(a:Act) (w:World),kR P c (look (oQ 0 args)) (λ_=>.non) a w->code.wp P (bodyPostD P fn (x8 c v)) a w):fu P f args v:=by
 refine⟨by unfold callee;rw[hf];simp only[hb];simpa using hname,λph w us hp hG hS ra=>?_⟩;have hlen:=ra.length;let c:Ctx:=⟨ph,λ_=>none,λ_=>.non,w,fn.ntmps,[]⟩
 refine calls_of_wp_defers hf hb (h (ja.ok _ _ ra) c rfl rfl rfl rfl _ w ?_);refine⟨hG,jQ.mono hS (eZ _) (aK _) (λ_ _ _=>⟨rfl,rfl,λb p hp=>by cases hp⟩),rfl,?_,ph,λ_=>none,⟨hp,λb=>by simp,(λb p e=>by cases e),(λb c p q e=>by cases e),(λb p e=>by cases e)⟩,(Step.refl _ _ _ _).wk,fC w,λk=>?_⟩
 ·simp[c];omega
 ·show RepV ph (λ_=>none) (look (oQ 0 args) k) _;have:=Kt (ρ:=λ_=>none) 0 ra k;simp only[dO,if_true,dP]at this;have e1:(us.toArray++Array.replicate (fn.ntmps-us.toArray.size) undef).getD k undef=us.getD k undef:=by
   rw[aT,aF,Array.getElem?_append];split
   ·simp
   ·rename_i hh;rw[aM (by simpa using hh)];simp only[bK];split<;>rfl
  rw[e1];exact this
def ng.transW{h h' h'':PH}{ρ ρ' ρ'':RM}{m m' m'':Hp}{w w' w'':Heap}(s:ng h ρ m w h' ρ' m' w')(t:ng h' ρ' m' w' h'' ρ'' m'' w''):ng h ρ m w h'' ρ'' m'' w'' where
 hle:=PH.le_trans s.hle t.hle
 hlow:=λB hB hf=>(t.hlow B (bv hB s.size) (s.free hB hf)).trans (s.hlow B hB hf)
 size:=aj s.size t.size
 frame:=λB hB hf=>(t.frame B (bv hB s.size) (s.free hB hf)).trans (s.frame B hB hf)
 own:=λb p hp hr=>by
  rcases t.own b p hp hr with h1|⟨c,q,hc,hq,e⟩
  ·exact .inl (aj s.size h1)
  ·rcases s.own c q hc hq with h2|⟨d,r,hd,hr',e'⟩
   ·exact .inl (by omega)
   ·exact .inr ⟨d,r,hd,hr',e'.trans e⟩
def HRel.pin{h:PH}{ρ:RM}{m:Hp}{w:Heap}(H:HRel h ρ m w){b j:Nat}{p:Nat × Nat}(hb:ρ b=some p)(hj:m j=.non):HRel h (upd ρ j (some p)) (upd m j (.pin p b)) w/\ng h ρ m w h (upd ρ j (some p)) (upd m j (.pin p b)) w:=by
 have hne:b≠j:=λe=>by
  subst e;rw[(H.dom b).1 hj]at hb;cases hb
 have rle:ρ.le (upd ρ j (some p)):=λc q hc=>by
  by_cases e:c=j
  ·subst e;rw[(H.dom c).1 hj]at hc;cases hc
  ·rw[zah _ _ e];exact hc
 have key:∀c q,(upd ρ j (some p)) c=some q->Real ((upd m j (.pin p b)) c) q->ρ c=some q/\Real (m c) q:=λc q hc hr=>by
  by_cases e:c=j
  ·subst e;rw[zae]at hr;exact hr.elim
  ·rw[zah _ _ e]at hc hr;exact⟨hc,hr⟩
 refine⟨⟨H.pers,λc=>?_,λc q hc=>?_,λc d q r hc hd hrc hrd e=>?_,λc q hc hr=>H.sep c q (key c q hc hr).1 (key c q hc hr).2⟩,eZ h,λB _ _=>rfl,aK _,λB _ _=>rfl,λc q hc hr=>.inr ⟨c,q,(key c q hc hr).1,(key c q hc hr).2,rfl⟩⟩
 ·by_cases e:c=j
  ·subst e;rw[zae,zae];simp
  ·rw[zah _ _ e,zah _ _ e];exact H.dom c
 ·by_cases e:c=j
  ·subst e;rw[zae]at hc⊢;cases hc;exact⟨rfl,by rw[zah _ _ hne];exact hb⟩
  ·rw[zah _ _ e]at hc⊢;exact zaj.congr (eZ h) rle rfl (H.own c q hc)
 ·obtain⟨h1,h2⟩:=key c q hc hrc;obtain⟨h3,h4⟩:=key d r hd hrd;exact H.inj c d q r h1 h3 h2 h4 e
end
end Go.Abs
namespace Go.Abs
variable [jQ]
def zga{bs:List Blk}{k b:Nat}{t:Nat × Nat}(hk:bs[k]?=some (.pin t b)){h:PH}{ρ:RM}{w:Heap}(K:HRel h ρ (hpOf bs) w):ρ b=some t:=by
 have e:hpOf bs k=.pin t b:=by
  unfold hpOf;simp[aF,hk]
 cases hr:ρ k with
 |none=>
  have:=(K.dom k).2 hr;rw[e]at this;cases this
 |some p=>
  have:=K.own k p hr;rw[e]at this;exact this.2
def lQ(t:Nat × Nat):D:=.sc (.pointer (some ⟨t.1,0,none⟩))
def zfW{bs:List Blk}{k b:Nat}{t:Nat × Nat}(hk:bs[k]?=some (.pin t b)){h:PH}{ρ:RM}{w:Heap}(K:HRel h ρ (hpOf bs) w)(v:Value):RepV h ρ (.c (.d (lQ t))) v↔RepV h ρ (.c (.ptr b 0)) v:=by
 have e:=zga hk K;unfold lQ;simp only[RepV,RepC,RepD];constructor
 ·intro r;exact⟨t,e,r⟩
 ·rintro⟨p,h1,h2⟩
  rw[e]at h1;cases h1;exact h2
def I4{bs:List Blk}{k b:Nat}{t:Nat × Nat}(hk:bs[k]?=some (.pin t b)){h:PH}{ρ:RM}{w:Heap}(K:HRel h ρ (hpOf bs) w){args:List AV}{argsC:List Value}:zad h ρ (.c (.d (lQ t))::args) argsC↔zad h ρ (.c (.ptr b 0)::args) argsC:=by
 cases argsC with
 |nil=>simp[zad]
 |cons u us=>simp only[zad];rw[zfW hk K]
def MCall.raw{P:Program}{f:FuncId}{args:List AV}{bs:List Blk}{v:AV}{bs':List Blk}{k b:Nat}{t:Nat × Nat}(hk:bs[k]?=some (.pin t b)):MCall P f (.c (.d (lQ t))::args) bs v bs'↔MCall P f (.c (.ptr b 0)::args) bs v bs':=by
 unfold MCall;refine and_congr Iff.rfl (and_congr Iff.rfl (and_congr Iff.rfl (and_congr Iff.rfl (and_congr Iff.rfl ?_))));constructor
 ·exactλH h ρ w argsC K G S r=>H h ρ w argsC K G S ((I4 hk K).2 r)
 ·exactλH h ρ w argsC K G S r=>H h ρ w argsC K G S ((I4 hk K).1 r)
def om.raw{P:Program}{f:FuncId}{args:List AV}{bs:List Blk}{pv:Value}{bs':List Blk}{k b:Nat}{t:Nat × Nat}(hk:bs[k]?=some (.pin t b)):om P f (.c (.d (lQ t))::args) bs pv bs'↔om P f (.c (.ptr b 0)::args) bs pv bs':=by
 unfold om;refine and_congr Iff.rfl (and_congr Iff.rfl (and_congr Iff.rfl (and_congr Iff.rfl ?_)));constructor
 ·exactλH h ρ w argsC K G S r=>H h ρ w argsC K G S ((I4 hk K).2 r)
 ·exactλH h ρ w argsC K G S r=>H h ρ w argsC K G S ((I4 hk K).1 r)
def gP.raw{P:Program}{f:FuncId}{args:List AV}{bs:List Blk}{o:XO}{bs':List Blk}{k b:Nat}{t:Nat × Nat}(hk:bs[k]?=some (.pin t b)):gP P f (.c (.d (lQ t))::args) bs o bs'↔gP P f (.c (.ptr b 0)::args) bs o bs':=by
 cases o with
 |ret v=>exact MCall.raw hk
 |pan pv=>exact om.raw hk
end Go.Abs
namespace Go.Abs
variable [jQ]
def zad.fz{h:PH}{ρ:RM}{m:Hp}{w:Heap}{b s:Nat}{ds:List (List D)}(H:HRel h ρ m w){p:Nat × Nat}(e:ρ b=some p)(hb:m b=.arr s (ds.map (·.map .d))):∀{xs:List AV} {vs:List Value},zad h ρ xs vs->zad (u6 h p w) ρ (xs.map (AV.fz b s ds)) vs
|[],vs,r=>by simpa[zad]using r
|x::xs,[],r=>by simp[zad]at r
|x::xs,v::vs,r=>by
 simp only[List.map_cons,zad]at r⊢;exact⟨RepV.fz H e hb r.1,zad.fz H e hb r.2⟩
def zfo{bs:List Blk}{s:Nat}{ds:List (List D)}(hb:∀b,b∈bs->b.fz bs.length s ds=b):vM (hpOf (bs++[.arr s (ds.map (·.map .d))])) bs.length s ds=hpOf (bs++[.dead]):=by
 funext i;rw[Ku];unfold hpOf;by_cases hi:i=bs.length
 ·subst hi;simp[aF]
 rw[aA hi];by_cases hl:i<bs.length
 ·simp only[aF,ay hl,aD hl,Option.getD_some];exact hb _ (ai hl)
 ·have h1:(bs++[Blk.arr s (ds.map (·.map .d))])[i]?=none:=aM (by simp;omega);have h2:(bs++[Blk.dead])[i]?=none:=aM (by simp;omega);simp[aF,h1,h2]
section
variable {P:Program} {f:FuncId} {args args':List AV} {bs bs':List Blk} {s:Nat} {ds:List (List D)}
def SS{h:PH}{ρ:RM}{w:World}{argsC:List Value}(hb:∀b,b∈bs->b.fz bs.length s ds=b)(ha:args.map (AV.fz bs.length s ds)=args')(H:HRel h ρ (hpOf (bs++[.arr s (ds.map (·.map .d))])) w.heap)(hS:jQ.ok h (jm ρ (hpOf (bs++[.arr s (ds.map (·.map .d))]))) w)(r:zad h ρ args argsC):
  ∃h1:PH,h.le h1/\HRel h1 ρ (hpOf (bs++[.dead])) w.heap/\jQ.ok h1 (jm ρ (hpOf (bs++[.dead]))) w/\zad h1 ρ args' argsC/\ng h ρ (hpOf (bs++[.arr s (ds.map (·.map .d))])) w.heap h1 ρ (hpOf (bs++[.dead])) w.heap:=by
 have em:hpOf (bs++[.arr s (ds.map (·.map .d))]) bs.length=.arr s (ds.map (·.map .d)):=by unfold hpOf;simp[aF]
 have hne:ρ bs.length≠none:=λe=>by have:=(H.dom _).2 e;rw[em]at this;cases this
 obtain⟨p,e⟩:=Option.ne_none_iff_exists'.1 hne;obtain⟨K,T⟩:=H.fz e em;have r':=zad.fz H e em r;rw[zfo hb]at K T;rw[ha]at r';exact⟨_,T.hle,K,jQ.mono hS T.hle (aK _) λB hB hF=>⟨T.hlow B hB hF,rfl,T.free hB hF⟩,r',T.wk⟩
def MCall.fzLast{v:AV}(hc:MCall P f args' (bs++[.dead]) v bs')(ha:args.map (AV.fz bs.length s ds)=args')(hb:∀b,b∈bs->b.fz bs.length s ds=b):MCall P f args (bs++[.arr s (ds.map (·.map .d))]) v bs':=by
 obtain⟨c1,c2,c3,c4,c5,c6⟩:=hc;refine⟨c1,by simpa using c2,c3,c4,c5,λh ρ w argsC H hG hS r=>?_⟩;obtain⟨h1,le,K,S,r',T⟩:=SS hb ha H hS r;refine(c6 h1 ρ w argsC K (hG.mono le) S r').mono λe w' q=>?_;obtain⟨vC,h',ρ',q1,q2,q3,q4,q5,q6⟩:=q;exact⟨vC,h',ρ',q1,T.transW q2,q3,q4,q5,λi hi=>q6 i (by simpa using hi)⟩
def om.fzLast{pv:Value}(hc:om P f args' (bs++[.dead]) pv bs')(ha:args.map (AV.fz bs.length s ds)=args')(hb:∀b,b∈bs->b.fz bs.length s ds=b):om P f args (bs++[.arr s (ds.map (·.map .d))]) pv bs':=by
 obtain⟨c1,c2,c3,c5,c6⟩:=hc;refine⟨c1,by simpa using c2,c3,c5,λh ρ w argsC H hG hS r=>?_⟩;obtain⟨h1,le,K,S,r',T⟩:=SS hb ha H hS r;refine(c6 h1 ρ w argsC K (hG.mono le) S r').mono λe w' q=>?_;obtain⟨h',ρ',q1,q2,q3,q4,q6⟩:=q;exact⟨h',ρ',q1,T.transW q2,q3,q4,λi hi=>q6 i (by simpa using hi)⟩
def gP.fzLast{o:XO}(hc:gP P f args' (bs++[.dead]) o bs')(ha:args.map (AV.fz bs.length s ds)=args')(hb:∀b,b∈bs->b.fz bs.length s ds=b):gP P f args (bs++[.arr s (ds.map (·.map .d))]) o bs':=by
 cases o with
 |ret v=>exact MCall.fzLast hc ha hb
 |pan pv=>exact om.fzLast hc ha hb
end
def zfp{β:Type}(i:Nat)(k:Nat):∀(l:List (List (Nat × β))) (f:Nat->β),gM (λ_=>false) i f l k=f k
|[],f=>rfl
| x::l,f=>by
 simp only[gM,au,if_false];exact(by
  have:∀(l:List (List (Nat × β))) (j:Nat),gM (λ_=>false) j f l k=f k:=λl=>by
   induction l with
   |nil=>intro j;rfl
   |cons x l ih=>intro j;simp only[gM,au,if_false];exact ih _
  exact this l _)
def zeW{β:Type}(L:Nat->Bool)(i k:Nat)(l:List (List (Nat × β)))(f:Nat->β)(h:∀x,x∈l->∀y,y∈x->y.1≠k):gM L i f l k=f k:=by
 rw[yT (k:=k) l i L (λ_=>false) f f (λq x hq hx=>by
  obtain⟨y,hy,hk⟩:=hx
  exact absurd hk (h x (aW hq) y hy)) rfl]
 exact zfp i k l f
def Dg(S:St)(ks:List Nat):List (Nat × AV):=ks.map λk=>(k,S.get k)
def zeB(S:St)(ks:List Nat)(k:Nat):look (Dg S ks) k=if k∈ks then S.get k else .c (.d .any):=by
 unfold Dg
 induction ks with
 |nil=>rfl
 | cons x l ih=>
  simp only[List.map_cons,look];by_cases h:k=x
  ·subst h;simp
  ·have h':¬x=k:=λe=>h e.symm;simp only[h,if_false,aS,false_or];exact ih
section
variable {P:Program} {c:Ctx} {Q:Exit->St->Prop} {S:St}
def AW.regdxK {bef:List Nat} {os:List MO} (ks:List Nat) (hks:(os.all λmo=>ks.all λk=>decide (mo.dst≠some k))=true) (hm:P.follows .mixedOrders=true) (h:rR P bef 0 os S [] (λS' fps=>uY bef fps=true/\Q .normal S') (λpv S' pj fps=>uY bef fps=true/\Hz bef pj fps=true/\Q (.panic [{v:=pv,recovered:=false}]) ⟨Dg S ks,S'.m,S'.n⟩)):AW P c (.regdx bef os) Q S:=by
 intro code hc a w r;cases code with
 | region id ops d=>
  simp only[iH,aC]at hc;obtain⟨⟨⟨h1,h2⟩,h3⟩,h4⟩:=hc;subst h1;have none:∀{β:Type} (l:List (List (Nat × β))) (i:Nat) (f:Nat->β),gM (jy (Array.replicate ops.size false)) i f l=f:=by
   intro β l
   induction l with
   |nil=>intro i f;rfl
   | cons x l ih=>
    intro i f;have:jy (Array.replicate ops.size false) i=false:=by
     unfold jy;simp only[aT,bK];split<;>rfl
    simp only[gM,this];exact ih _ _
  have l0:∀i,jy (Array.replicate ops.size false) i=false:=λi=>by
   unfold jy;simp only[aT,bK];split<;>rfl
  have c0:cnt (Array.replicate ops.size false)+ops.size=ops.size:=by
   have:cnt (Array.replicate ops.size false)=0:=by
    unfold cnt;simp
   omega
  rcases Km (ops:=ops) (by simp) h2 h with⟨es,S',t1,t2,t3,t4⟩|⟨pj,pv,wrp,n,es,g0,g1,g2,g3⟩
  ·simp only[List.reverse_nil,List.nil_append]at t4;refine wp_region_any hm ?_;refine Ki h2 t1 h3 h4 t4.1 (λa w r=>⟨S',by rw[t2,t3];exact r,t4.2⟩) ops.size _ a _ (by simp) c0 (λj i hj _ _=>by rw[l0]at hj;cases hj) ?_;rw[none,none];obtain⟨ph,ρ,H,S0,e0,hg⟩:=r.ex;exact⟨r.gnd,r.sd,r.defers,r.size,ph,ρ,H,S0,⟨e0.1,e0.2.1,e0.2.2⟩,hg⟩
  ·simp only[List.reverse_nil,List.nil_append,dP]at g3;refine wp_region_any hm ?_;refine Kh (pj:=pj) (pv:=pv) (wrp:=wrp) (es:=es) (get:=S.get) (m:=S.m) h2 g2.len (λj o ho=>by
    obtain⟨mo,e,e1,e2,e3⟩:=g2.nth ho;rw[Nat.zero_add]at e3;exact⟨mo,e,e1,e2,e3⟩) h3 h4 g3.1 (λh=>absurd g1 h) (λ_ i e he hw=>?_) (λ_ L a w r=>⟨⟨Dg S ks,jc (gM (λi=>decide (i<pj)) 0 S.m (es.map λx:E=>x.wr)) wrp,n⟩,⟨r.gnd,r.sd,r.defers,r.size,by
     obtain⟨ph,ρ,H,S0,e0,hg⟩:=r.ex;refine⟨ph,ρ,H,S0,e0,λk=>?_⟩;show RepV ph ρ (look (Dg S ks) k) _;rw[zeB];split
     ·rename_i hk;have:=hg k;rw[zeW]at this
      ·exact this
      ·intro x hx y hy e;obtain⟨z,hz,rfl⟩:=bI.1 hx;unfold dw at hy;split at hy
       ·rename_i d hd;rw[aP.1 hy]at e;have h1:=aZ.1 (aZ.1 hks z.1 (List.of_mem_zip hz).1) k hk;simp only[aI]at h1;exact h1 (hd.trans (bu some e))
       ·cases hy
     ·simp only[RepV,RepC,RepD]⟩,g3.2.2⟩) ops.size _ a _ (λ_=>l0 _) (by simp) c0 (λj i hj _ _=>by rw[l0]at hj;cases hj) ?_
   ·have hlt:i<(es.map λe=>(e.rd,e.wr.map (·.1))).length:=by
     rcases aX i es.length with h|h
     ·simpa using h
     ·rw[aM h]at he;cases he
    have:=aZ.1 g3.2.1 i (by simpa using hlt);rw[aF,List.getElem?_map,he]at this;simp only[Option.map_some,Option.getD_some,bS,aC,aI,List.isEmpty_iff,List.map_eq_nil_iff]at this;exact this.resolve_left hw
   ·rw[none,none];obtain⟨ph,ρ,H,S0,e0,hg⟩:=r.ex;exact⟨r.gnd,r.sd,r.defers,r.size,ph,ρ,H,S0,⟨e0.1,e0.2.1,e0.2.2⟩,hg⟩
 |_=>simp[iH]at hc
end
def fu.m{P:Program}{f:FuncId}{args:List AV}{bs:List Blk}{ds:List DV}{d:D}(hp:@fu jQ.triv P f ds (.one d))(e:xP args=some ds)
  (h1:(bs.all λb=>b.tag !=0)=true) (h2:(bs.all λb=>b.lv (live bs))=true):MCall P f args bs (.c (.d d)) bs:=by
 refine⟨hp.1,aK _,yV h1,rfl,λb hb=>aZ.1 h2 b hb,λh ρ w argsC H hG hS r=>?_⟩;refine(hp.2 h w argsC H.pers hG trivial (KE e r)).mono λe w' hh=>?_;obtain⟨vC,h',e1,e2,e3,e4,e5,e6,e7,e8⟩:=hh;refine⟨vC,h',ρ,e1,⟨e2,λB hB _=>e3 B hB,e5,λB hB _=>e6 B hB,λb p hp hr=>.inr ⟨b,p,hp,hr,rfl⟩⟩,H.grow e2 e4 (λB hB _=>⟨e6 B hB,e3 B hB⟩),e7,?_,λ_ _=>rfl⟩;simp only[jZ]at e8;simp only[RepV,RepC];exact e8
end Go.Abs
namespace Go.Gr
open Go.Abs Go.Proofs
noncomputable abbrev Pg:Program:=Tryz.prog
def gD:Pg.follows .mixedOrders=true:=Tryz.checked.mixed
def SV:List (List TY):=
 let p:=.o (.sc (.pointer none)) 8;let f:=.o (.sc .nilFunc) 8;let q:=.o (.sc .nilIface) 16;let n:=.i .i64
 [[.s,f,n,n,.b,.i .u8,.i .u8,.r 4 24 [2,3,4,6],.r 4 24 [2,3,4,6],.s,.s,.s,.i .u64,.r 2 24 [9,12],.r 2 24 [9,12],p],
  [p,p,.r 1 8 [17],.r 1 8 [17],q,.i .i32,.l 39,.l 3,f,.l 69,.l 244,.r 3 56 [25,3,26],.r 3 56 [25,3,26],.s,f,.l 9],
  [.r 4 56 [31,3,3,9],.r 4 56 [31,3,3,9],f,f,f,f,.r 2 32 [9,9],.r 2 32 [9,9],.l 84,.l 126,.r 3 32 [9,3,3],.r 3 32 [9,3,3],.r 6 104 [31,40,41,43],.r 6 104 [31,40,41,43],.l 79,.s],
  [f,.s,f,p,.r 6 112 [28,23,3,31],.r 6 112 [28,23,3,31],.r 2 16 [3,3],.r 2 16 [3,3],.s,f,q,q,f,.l 63,.r 4 72 [3,9,31,61],.r 4 72 [3,9,31,61]],
  [.l 172,.l 67,.r 8 152 [3,3,9,23,31,61,64,65],.r 8 152 [3,3,9,23,31,61,64,65],.r 13 240 [9,63,67],.r 13 240 [9,63,67],.r 0 0 [],.r 0 0 [],.l 59,.s,f,f,f,n,.r 4 32 [3,3,3,77],.r 4 32 [3,3,3,77]],
  [f,.l 130,.l 90,.r 2 48 [81,82],.r 2 48 [81,82],.l 188,.l 88,.r 8 120 [3,9,3,3,3,61,31,86],.r 8 120 [3,9,3,3,3,61,31,86],.r 15 224 [9,4,85,9,61,88,3,3],.r 15 224 [9,4,85,9,61,88,3,3],p,p,.l 101,.r 2 32 [3,93],.r 2 32 [3,93]],
  [.r 17 272 [45,92,28,46,3,31,61,77,3,3],.r 17 272 [45,92,28,46,3,31,61,77,3,3],.s,f,.r 3 40 [3,3,61],.r 3 40 [3,3,61],f,.b,n,f,.s,f,p,p,f,f],
  [f,f,.m 9 59,.r 2 32 [114,64],.r 2 32 [114,64],f,f,f,f,f,f,f,.s,f,.l 43,.s],
  [f,.r 4 56 [9,31,3,3],.r 4 56 [9,31,3,3],.s,f,f,f,f,f,f,f,f,f,f,.s,f],
  [.r 5 88 [9,63],.r 5 88 [9,63],.l 145,f,f,f,p,.l 5,.r 2 32 [150,151],.r 2 32 [150,151],f,q,q,.s,f,f],
  [f,.r 2 32 [160,64],.r 2 32 [160,64],.s,f,f,f,f,f,f,.l 205,.r 5 120 [23,170,31,64,64],.r 5 120 [23,170,31,64,64],f,f,f],
  [f,f,f,p,.s,f,f,f,.l 4,.s,f,.r 5 88 [9,63],.r 5 88 [9,63],f,f,f],
  [f,p,f,f,f,f,.i .u64,p,.s,.s,f,f,.r 2 24 [9,3],.r 2 24 [9,3],f,.s],
  [.s,f,f,.l 217,.s,f,.r 6 64 [211,3,3,77,3,3],.r 6 64 [211,3,3,77,3,3],.r 4 40 [3,9,3,3],.r 4 40 [3,9,3,3],f,f,.s,f,f,f],
  [f,.s,f,f,.l 231,f,.r 6 88 [3,4,63],.r 6 88 [3,4,63],.s,f,f,f,f,f,f,.s],
  [f,f,f,.r 3 24 [3,3,3],.r 3 24 [3,3,3],f,.r 0 0 [],.r 0 0 [],.i .u32,.r 1 4 [247,248],.r 1 4 [247,248],.r 2 8 [21,248],.r 2 8 [21,248],.r 2 8 [246,252],.r 2 8 [246,252],.r 3 12 [246,250,254]],
  [.r 3 12 [246,250,254],q,q,.r 5 56 [256,258,31],.r 5 56 [256,258,31],f,f,n,.s,f,f,f,f,.s,f,f],
  [f,.i .u64,.s,f,f,.s,f,f,.s,f,.s,f,f,p,f,f],
  [.s,f,f,f,f,f,f,f,.a 24 24 5,f,.s,f,p,f,.i .u64,f],
  [f,f,p,f,f,f,f,f,.m 9 172,f,f,.s,f,f,f,.a 20 20 273],
  [.a 65 65 5,f,p,f,p,p,f,p,f,.a 256 256 5,.a 256 256 5,p,.a 256 256 151,.r 257 6168 [332,31],.r 257 6168 [332,31],p],
  [p,.s,f,f,f,f,.l 31,p,f,f,p,f,.r 2 24 [346,9],.r 2 24 [346,9],p,.l 350],
  [.r 5 72 [9,3,9,350,351],.r 5 72 [9,3,9,350,351],.r 262 336 [353,3,329],.r 262 336 [353,3,329],f,.l 359,.r 5 88 [9,63],.r 5 88 [9,63],f,f,f,p,.a 6 6 363,f,f,f],
  [.a 32 32 5,.a 64 64 5,p,f,p,f,f,f,.a 256 256 3,.r 258 2088 [9,376,23],.r 258 2088 [9,376,23],f,f,f,f,f],
  [f,f,f,f,f,f,f,f,f,f,f,.l 397,.r 2 16 [3,3],.r 2 16 [3,3],f,p],
  [f,.l 407,.l 410,.r 3 56 [401,402,3],.r 3 56 [401,402,3],.i .u16,.r 3 6 [405,405,405],.r 3 6 [405,405,405],f,.r 3 12 [248,248,248],.r 3 12 [248,248,248],f,p,p,.r 4 40 [17,17,17,9],.r 4 40 [17,17,17,9]],
  [.a 0 0 16,.r 0 0 [416],.r 0 0 [416],.i .u8,.i .u8,f,.i .i32,.i .i32,.r 11 48 [12,12,248,419,5,5,420,421,199,422,423],.r 11 48 [12,12,248,419,5,5,420,421,199,422,423],f,.l 5,p,q,q,q],
  [q,f,.s,f,.s,.r 1 16 [430],.r 1 16 [430],f,f,.s,f]]
def tt(k:Nat):TY:=IK .s (IK [] SV (k/16)) (k%16)
attribute [simp] tt SV
def SX:MC:=(λx(_:x=gC tt [] [] [] (iL 0 (gB Tryz.f193)))=>x) _ (by dsimp[Tryz.f193])
def SY:MC:=(λx(_:x=gC tt [] [] [(0,SX)] (gB Tryz.f193))=>x) _ (by dsimp[Tryz.f193])
def zyH:WT Pg 193 52 SY [.tmp 2,.tmp 3]:=wT gD Tryz.func193 (by kernel_rfl)
def S9:MC:=(λx(_:x=gC tt [] [] [] (gB Tryz.f110))=>x) _ (by dsimp[Tryz.f110])
def zyI:WT Pg 110 2 S9 [.tmp 0]:=wT gD Tryz.func110 (by kernel_rfl)
def Sa:MC:=(λx(_:x=gC tt [] [] [] (iL 0 (gB Tryz.f70)))=>x) _ (by dsimp[Tryz.f70])
def Sb:MC:=(λx(_:x=gC tt [] [] [(0,Sa)] (gB Tryz.f70))=>x) _ (by dsimp[Tryz.f70])
def zAh:WT Pg 70 18 Sb [.tmp 2]:=wT gD Tryz.func70 (by kernel_rfl)
def Sc:MC:=(λx(_:x=gC tt [] [] [] (gB Tryz.f72))=>x) _ (by dsimp[Tryz.f72])
def zxi:WT Pg 72 21 Sc [.tmp 2]:=wT gD Tryz.func72 (by kernel_rfl)
def Sd:MC:=(λx(_:x=gC tt [] [] [] (gB Tryz.f71))=>x) _ (by dsimp[Tryz.f71])
def zyJ:WT Pg 71 9 Sd [.tmp 2]:=wT gD Tryz.func71 (by kernel_rfl)
def Sg:MC:=(λx(_:x=gC tt [] [] [] (iL 0 (gB Tryz.f32)))=>x) _ (by dsimp[Tryz.f32])
def Si:MC:=(λx(_:x=gC tt [] [] [(0,Sg)] (gB Tryz.f32))=>x) _ (by dsimp[Tryz.f32])
def zAi:WT Pg 32 45 Si [.tmp 2]:=wT gD Tryz.func32 (by kernel_rfl)
def LX:MC:=(λx(_:x=gC tt [] [(5,[0,1,3,7,15,31,15,15,207,463,1023,2047])] [] (iL 0 (gB Tryz.f195)))=>x) _ (by dsimp[Tryz.f195])
def LY:MC:=(λx(_:x=gC tt [] [(11,[0,1,0,0,12,31])] [] (iL 2 (gB Tryz.f195)))=>x) _ (by dsimp[Tryz.f195])
def Sj:MC:=(λx(_:x=gC tt [] [] [(0,LX),(2,LY)] (gB Tryz.f195))=>x) _ (by dsimp[Tryz.f195])
def zAj:WT Pg 195 38 Sj [.tmp 2]:=wT gD Tryz.func195 (by kernel_rfl)
def Sk:MC:=(λx(_:x=gC tt [] [] [] (iL 0 (gB Tryz.f194)))=>x) _ (by dsimp[Tryz.f194])
def Sl:MC:=(λx(_:x=gC tt [] [] [(0,Sk)] (gB Tryz.f194))=>x) _ (by dsimp[Tryz.f194])
def zxj:WT Pg 194 59 Sl [.tmp 2,.tmp 3]:=wT gD Tryz.func194 (by kernel_rfl)
def LZ:MC:=(λx(_:x=gC tt [] [] [] (iL 2 (gB Tryz.f159)))=>x) _ (by dsimp[Tryz.f159])
def Sm:MC:=(λx(_:x=gC tt [] [] [(2,LZ)] (iL 0 (gB Tryz.f159)))=>x) _ (by dsimp[Tryz.f159])
def Sn:MC:=(λx(_:x=gC tt [] [] [(0,Sm)] (gB Tryz.f159))=>x) _ (by dsimp[Tryz.f159])
def zyK:WT Pg 159 50 Sn [.tmp 2]:=wT gD Tryz.func159 (by kernel_rfl)
def L6:MC:=(λx(_:x=gC tt [] [] [] (iL 0 (gB Tryz.f160)))=>x) _ (by dsimp[Tryz.f160])
def Sq:MC:=(λx(_:x=gC tt [] [] [(0,L6)] (gB Tryz.f160))=>x) _ (by dsimp[Tryz.f160])
def zyL:WT Pg 160 115 Sq [.cell 2 true 4,.tmp 3,.tmp 4]:=wT gD Tryz.func160 (by kernel_rfl)
def L8:MC:=(λx(_:x=gC tt [] [] [] (iL 2 (gB Tryz.f111)))=>x) _ (by dsimp[Tryz.f111])
def Sr:MC:=(λx(_:x=gC tt [] [] [(2,L8)] (iL 0 (gB Tryz.f111)))=>x) _ (by dsimp[Tryz.f111])
def Su:MC:=(λx(_:x=gC tt [(6,0)] [] [(0,Sr)] (gB Tryz.f111))=>x) _ (by dsimp[Tryz.f111])
def zBJ:WT Pg 111 86 Su [.tmp 2,.cell 3 true 4]:=wT gD Tryz.func111 (by kernel_rfl)
def Sv:MC:=(λx(_:x=gC tt [] [(2,[0,0,2,6,14,0,32,96,224,510,1022,2046,4095,8191,16383]),(3,[0,0,2,6,14,0,32,96,224,510,1022,2046,4095,8191,16383])] [] (gB Tryz.f119))=>x) _ (by dsimp[Tryz.f119])
def zAk:WM Pg 119 41 Sv []:=wM gD Tryz.func119 (by kernel_rfl)
def Sw:MC:=(λx(_:x=gC tt [] [(1,[0,1,3,7,0,16,48,112,255,511,0,2047])] [] (gB Tryz.f161))=>x) _ (by dsimp[Tryz.f161])
def zAl:WM Pg 161 37 Sw [.tmp 4]:=wM gD Tryz.func161 (by kernel_rfl)
def Sy:MC:=(λx(_:x=gC tt [(9,161)] [] [] (gB Tryz.f112))=>x) _ (by dsimp[Tryz.f112])
def zAm:WM Pg 112 18 Sy [.tmp 4]:=wM gD Tryz.func112 (by kernel_rfl)
def Sz:MC:=(λx(_:x=gC tt [(9,112),(9,119)] [] [] (gB Tryz.f114))=>x) _ (by dsimp[Tryz.f114])
def zAn:WM Pg 114 12 Sz []:=wM gD Tryz.func114 (by kernel_rfl)
def TA:MC:=(λx(_:x=gC tt [(9,119)] [(1,[0,1,3,7,0,16,48,112,255,511,0,2047])] [] (gB Tryz.f113))=>x) _ (by dsimp[Tryz.f113])
def zAo:WM Pg 113 35 TA [.tmp 2]:=wM gD Tryz.func113 (by kernel_rfl)
def TB:MC:=(λx(_:x=gC tt [(9,119)] [] [] (gB Tryz.f164))=>x) _ (by dsimp[Tryz.f164])
def zyM:WM Pg 164 22 TB [.tmp 2]:=wM gD Tryz.func164 (by kernel_rfl)
def TC:MC:=(λx(_:x=gC tt [(9,164),(9,196),(9,112),(9,162)] [] [] (gB Tryz.f162))=>x) _ (by dsimp[Tryz.f162])
def zAp:WM Pg 162 31 TC [.cell 2 true 4]:=wM gD Tryz.func162 (by kernel_rfl)
def TD:MC:=(λx(_:x=gC tt [(9,112),(9,218)] [] [] (iL 0 (gB Tryz.f196)))=>x) _ (by dsimp[Tryz.f196])
def TF:MC:=(λx(_:x=gC tt [(9,218),(1,8),(4,19)] [] [(0,TD)] (gB Tryz.f196))=>x) _ (by dsimp[Tryz.f196])
def zBK:WM Pg 196 27 TF [.cell 2 true 4]:=wM gD Tryz.func196 (by kernel_rfl)
def TG:MC:=(λx(_:x=gC tt [(9,112)] [] [] (iL 0 (gB Tryz.f218)))=>x) _ (by dsimp[Tryz.f218])
def TH:MC:=(λx(_:x=gC tt [(9,113),(9,114),(9,162),(9,112)] [] [] (iL 2 (gB Tryz.f218)))=>x) _ (by dsimp[Tryz.f218])
def TI:MC:=(λx(_:x=gC tt [(9,112),(9,162),(9,114),(9,113),(5,43),(4,45),(4,68)] [] [(0,TG),(2,TH)] (gB Tryz.f218))=>x) _ (by dsimp[Tryz.f218])
def zAq:WM Pg 218 71 TI [.cell 2 true 4]:=wM gD Tryz.func218 (by kernel_rfl)
def TJ:MC:=(λx(_:x=gC tt [(9,112),(9,162)] [] [] (gB Tryz.f163))=>x) _ (by dsimp[Tryz.f163])
def zAr:WM Pg 163 13 TJ [.tmp 2]:=wM gD Tryz.func163 (by kernel_rfl)
def TK:MC:=(λx(_:x=gC tt [] [(1,[0,0,2,6,14,0,32,96,224,510,1022,2046,0,4096,12288,28672,0,65536,196608,458752,1044480,2093056,4190208,8388607,16777215])] [] (gB Tryz.f197))=>x) _ (by dsimp[Tryz.f197])
def zDl:WM Pg 197 29 TK [.cell 4 true 8]:=wM gD Tryz.func197 (by kernel_rfl)
def TL:MC:=(λx(_:x=gC tt [(9,164),(9,165)] [] [] (gB Tryz.f118))=>x) _ (by dsimp[Tryz.f118])
def zAs:WM Pg 118 20 TL [.cell 2 true 8]:=wM gD Tryz.func118 (by kernel_rfl)
def TM:MC:=(λx(_:x=gC tt [(9,197),(9,112),(9,113),(9,163),(9,114),(9,118),(9,117),(9,198)] [] [] (gB Tryz.f165))=>x) _ (by dsimp[Tryz.f165])
def zAt:WM Pg 165 76 TM [.cell 2 true 8]:=wM gD Tryz.func165 (by kernel_rfl)
def Dh:MC:=(λx(_:x=gC tt [(9,114),(9,113),(9,163),(7,1)] [] [] (gB Tryz.f117))=>x) _ (by dsimp[Tryz.f117])
def Er:WM Pg 117 26 Dh [.tmp 2,.tmp 3]:=wM gD Tryz.func117 (by kernel_rfl)
def TN:MC:=(λx(_:x=gC tt [(9,197),(9,112),(9,198)] [] [] (iL 0 (gB Tryz.f198)))=>x) _ (by dsimp[Tryz.f198])
def I5:MC:=(λx(_:x=gC tt [(9,219),(9,220),(9,198)] [] [(0,TN)] (gB Tryz.f198))=>x) _ (by dsimp[Tryz.f198])
def L9:WM Pg 198 72 I5 [.cell 4 true 8]:=wM gD Tryz.func198 (by kernel_rfl)
def TP:MC:=(λx(_:x=gC tt [(9,112),(9,198)] [] [] (iL 0 (gB Tryz.f220)))=>x) _ (by dsimp[Tryz.f220])
def TQ:MC:=(λx(_:x=gC tt [(9,112)] [] [] (iL 2 (gB Tryz.f220)))=>x) _ (by dsimp[Tryz.f220])
def TR:MC:=(λx(_:x=gC tt [(9,198),(9,197),(9,112),(9,162),(9,119)] [] [(0,TP),(2,TQ)] (gB Tryz.f220))=>x) _ (by dsimp[Tryz.f220])
def zBL:WM Pg 220 76 TR [.cell 2 true 8]:=wM gD Tryz.func220 (by kernel_rfl)
def TS:MC:=(λx(_:x=gC tt [(9,164),(9,197),(9,112),(9,219),(9,238)] [] [] (gB Tryz.f219))=>x) _ (by dsimp[Tryz.f219])
def zyN:WM Pg 219 39 TS [.cell 2 true 8]:=wM gD Tryz.func219 (by kernel_rfl)
def TU:MC:=(λx(_:x=gC tt [(9,197),(9,112),(9,118),(9,114),(9,113)] [] [] (iL 0 (gB Tryz.f238)))=>x) _ (by dsimp[Tryz.f238])
def TV:MC:=(λx(_:x=gC tt [(9,255)] [] [(0,TU)] (gB Tryz.f238))=>x) _ (by dsimp[Tryz.f238])
def zAu:WM Pg 238 33 TV [.cell 2 true 8]:=wM gD Tryz.func238 (by kernel_rfl)
def TW:MC:=(λx(_:x=gC tt [(9,197),(9,112),(9,114),(9,118),(9,274),(9,113),(9,275)] [(2,[0,1,3,7,0,16,48,112,255,511,0,2047])] [] (gB Tryz.f255))=>x) _ (by dsimp[Tryz.f255])
def zAv:WM Pg 255 125 TW [.cell 2 true 8]:=wM gD Tryz.func255 (by kernel_rfl)
def TZ:MC:=(λx(_:x=gC tt [(9,162),(9,112)] [] [] (iL 0 (gB Tryz.f275)))=>x) _ (by dsimp[Tryz.f275])
def T9:MC:=(λx(_:x=gC tt [(4,16),(9,114),(6,0)] [] [(0,TZ)] (gB Tryz.f275))=>x) _ (by dsimp[Tryz.f275])
def zyO:WM Pg 275 19 T9 [.tmp 2]:=wM gD Tryz.func275 (by kernel_rfl)
def Ta:MC:=(λx(_:x=gC tt [(9,113),(9,114),(9,118),(9,112)] [] [] (iL 0 (gB Tryz.f274)))=>x) _ (by dsimp[Tryz.f274])
def Tc:MC:=(λx(_:x=gC tt [(0,3),(9,112),(9,118),(9,114),(9,113),(4,106),(6,0)] [(4,[0,1,3,7,0,16,48,112,255,511,0,2047]),(5,[0,1,3,7,15,31,63,127,255,511,1023,2047,4095,8191,16383,2047,34815,100351,231423,493567,1048575,2097151,4194303,8388607,16777215,33554431,67108863,134217727,268435455,536870911,67108863,1140850687,3288334335,7583301631,16173236223,34359738367,68719476735,137438953471,274877906943,549755813887])] [(0,Ta)] (gB Tryz.f274))=>x) _ (by dsimp[Tryz.f274])
def zxl:WM Pg 274 109 Tc [.cell 4 true 8]:=wM gD Tryz.func274 (by kernel_rfl)
def Td:MC:=(λx(_:x=gC tt [(9,113),(9,112),(7,1)] [] [] (iL 0 (gB Tryz.f115)))=>x) _ (by dsimp[Tryz.f115])
def Te:MC:=(λx(_:x=gC tt [(6,0)] [] [(0,Td)] (gB Tryz.f115))=>x) _ (by dsimp[Tryz.f115])
def zyP:WM Pg 115 17 Te [.tmp 2]:=wM gD Tryz.func115 (by kernel_rfl)
def Tf:MC:=(λx(_:x=gC tt [(9,113),(9,112),(9,162)] [] [] (iL 0 (gB Tryz.f116)))=>x) _ (by dsimp[Tryz.f116])
def Tg:MC:=(λx(_:x=gC tt [(9,112),(4,27),(9,114),(6,0)] [] [(0,Tf)] (gB Tryz.f116))=>x) _ (by dsimp[Tryz.f116])
def zAw:WM Pg 116 30 Tg [.tmp 2]:=wM gD Tryz.func116 (by kernel_rfl)
def La:MC:=(λx(_:x=gC tt [(9,112),(9,113),(9,114),(9,115)] [(3,[0,1,3,7,0,16,48,112,255,511,1023,0,2048,6144,14336,0,32768,98304,229376,522240,1046528,2095104,4194303,0,16777215])] [] (iL 0 (gB Tryz.f74)))=>x) _ (by dsimp[Tryz.f74])
def Lb:MC:=(λx(_:x=gC tt [(9,112),(9,114),(9,113),(9,116),(9,117),(4,131),(9,118)] [(11,[0,1,3,7,15,31,63,127,255,511,63,1087,3135,7231,16383,32767,65535,131071,262143]),(13,[0,1,3,7,0,16,48,112,255,511,1023,2047,4095]),(14,[0,1,3,7,0,16,48,112,255,511,1023,2047,4095])] [] (iL 2 (gB Tryz.f74)))=>x) _ (by dsimp[Tryz.f74])
def Ti:MC:=(λx(_:x=gC tt [(6,0),(7,1)] [] [(0,La),(2,Lb)] (gB Tryz.f74))=>x) _ (by dsimp[Tryz.f74])
def zxm:WM Pg 74 145 Ti [.cell 2 true 2]:=wM gD Tryz.func74 (by kernel_rfl)
def Tj:MC:=(λx(_:x=gC tt [(9,119)] [(1,[0,1,3,7,15,31,63,127,255,511,63,1087,3135,7231,16383,32767,65535,131071,262143]),(3,[0,1,3,7,0,16,48,112,0,256,768,1792,4095,8191])] [] (gB Tryz.f75))=>x) _ (by dsimp[Tryz.f75])
def zBM:WM Pg 75 37 Tj [.cell 2 true 4]:=wM gD Tryz.func75 (by kernel_rfl)
def Tk:MC:=(λx(_:x=gC tt [(0,13)] [(2,[0,1,3,0,7,31])] [] (gB Tryz.f73))=>x) _ (by dsimp[Tryz.f73])
def zxn:WM Pg 73 15 Tk [.tmp 2,.cell 3 true 4]:=wM gD Tryz.func73 (by kernel_rfl)
def Tn:MC:=(λx(_:x=gC tt [(9,73),(9,74),(9,75)] [(3,[0,0,1,7]),(7,[0,0,1,7]),(8,[0,0,1,7])] [] (gB Tryz.f33))=>x) _ (by dsimp[Tryz.f33])
def zyQ:WT Pg 33 28 Tn [.cell 2 true 2,.cell 3 true 4]:=wT gD Tryz.func33 (by kernel_rfl)
structure Ins where
 op:Int
 a:Int
 b:Int
 c:Int
structure Prc where
 caps:Int
 regs:Int
 code:List Ins
def encI(l:List Int):List (List D):=l.map λi=>[.int .i64 i]
def encS(l:List di):List (List D):=l.map λs=>[.str s]
def rV(l:List (di × Int)):List (List D):=l.map λx=>[.str x.1,.int .i64 x.2]
inductive iJ where
|mk (tags:List Int) (needs:List (di × Int)) (names:List di) (fields fn:List iJ)
mutual
def iJ.enc:iJ->List D
|.mk t n s f g=>[.sl false 1 (encI t),.sl false 2 (rV n),.sl false 1 (encS s),.sl false 5 (iJ.encs f),.sl false 5 (iJ.encs g)]
def iJ.encs:List iJ->List (List D)
|[]=>[]
|c::cs=>iJ.enc c::iJ.encs cs
end
def iJ.encs_map(l:List iJ):iJ.encs l=l.map iJ.enc:=by
 induction l with
 |nil=>simp[iJ.encs]
 |cons c l ih=>simp[iJ.encs,ih]
structure Cod where
 ints:List Int
 strs:List di
 shapes:List (List di)
 cos:List iJ
 procs:List Prc
 main:Int
 merge:Bool
@[simp] theorem zGV(l:List Int):(encI l).length=l.length:=by simp[encI]
@[simp] theorem Tp(l:List di):(encS l).length=l.length:=by simp[encS]
@[simp] theorem zHY(l:List di)(k:Nat):(encS l)[k]?=(l[k]?).map λi=>[.str i]:=by simp[encS]
def iJ.tags:iJ->List Int|.mk t _ _ _ _=>t
def iJ.needs:iJ->List (di × Int)|.mk _ n _ _ _=>n
def iJ.names:iJ->List di|.mk _ _ s _ _=>s
def iJ.fields:iJ->List iJ|.mk _ _ _ f _=>f
def iJ.fn:iJ->List iJ|.mk _ _ _ _ g=>g
def iJ.enc_eq(d:iJ):d.enc=[.sl false 1 (encI d.tags),.sl false 2 (rV d.needs),.sl false 1 (encS d.names),.sl false 5 (d.fields.map iJ.enc),.sl false 5 (d.fn.map iJ.enc)]:=by
 cases d with
 |mk t n s f g=>simp[iJ.enc,iJ.encs_map,iJ.tags,iJ.needs,iJ.names,iJ.fields,iJ.fn]
@[simp high] theorem iJ.enc_0(d:iJ):d.enc[0]?=some (.sl false 1 (encI d.tags)):=by simp[iJ.enc_eq]
@[simp high] theorem iJ.enc_1(d:iJ):d.enc[1]?=some (.sl false 2 (rV d.needs)):=by simp[iJ.enc_eq]
end Go.Gr
namespace Go.Gr
open Go.Abs Go.Proofs List
inductive fZ where
|mk (kind:Int) (name:di) (names:List di) (kids:List fZ)
mutual
def fZ.enc:fZ->List D
|.mk k n s l=>[.int .i64 k,.str n,.sl false 1 (encS s),.sl false 4 (fZ.encs l)]
def fZ.encs:List fZ->List (List D)
|[]=>[]
|t::l=>fZ.enc t::fZ.encs l
end
def fZ.encs_map(l:List fZ):fZ.encs l=l.map fZ.enc:=by
 induction l with
 |nil=>simp[fZ.encs]
 |cons c l ih=>simp[fZ.encs,ih]
def fZ.kind:fZ->Int|.mk k _ _ _=>k
def fZ.name:fZ->di|.mk _ n _ _=>n
def fZ.names:fZ->List di|.mk _ _ s _=>s
def fZ.kids:fZ->List fZ|.mk _ _ _ l=>l
def fZ.enc_eq(t:fZ):t.enc=[.int .i64 t.kind,.str t.name,.sl false 1 (encS t.names),.sl false 4 (t.kids.map fZ.enc)]:=by
 cases t;simp[fZ.enc,fZ.encs_map,fZ.kind,fZ.name,fZ.names,fZ.kids]
@[simp] theorem fZ.enc_length(t:fZ):t.enc.length=4:=by rw[t.enc_eq];try rfl
@[simp] theorem fZ.enc_0(t:fZ):t.enc[0]?=some (.int .i64 t.kind):=by rw[t.enc_eq];try rfl
@[simp] theorem fZ.enc_1(t:fZ):t.enc[1]?=some (.str t.name):=by rw[t.enc_eq];try rfl
@[simp] theorem fZ.enc_2(t:fZ):t.enc[2]?=some (.sl false 1 (encS t.names)):=by rw[t.enc_eq];try rfl
@[simp] theorem fZ.enc_3(t:fZ):t.enc[3]?=some (.sl false 4 (t.kids.map fZ.enc)):=by rw[t.enc_eq];try rfl
@[simp] theorem fZ.enc_g0(t:fZ)(h:0<t.enc.length):t.enc[0]=.int .i64 t.kind:=by have:=t.enc_0;rw[aD h]at this;exact bV this
@[simp] theorem fZ.enc_g2(t:fZ)(h:2<t.enc.length):t.enc[2]=.sl false 1 (encS t.names):=by have:=t.enc_2;rw[aD h]at this;exact bV this
@[simp] theorem fZ.enc_g3(t:fZ)(h:3<t.enc.length):t.enc[3]=.sl false 4 (t.kids.map fZ.enc):=by have:=t.enc_3;rw[aD h]at this;exact bV this
def noT:fZ:=.mk 0 (bs []) [] []
structure Tok where
 kind:Int
 text:di
 line:Int
 col:Int
def Tok.enc(t:Tok):List D:=[.int .i64 t.kind,.str t.text,.int .i64 t.line,.int .i64 t.col]
def wC:Tok:=⟨0,bs [],0,0⟩
@[simp] theorem Tok.enc_length(t:Tok):t.enc.length=4:=rfl
@[simp] theorem Tok.enc_0(t:Tok):t.enc[0]?=some (.int .i64 t.kind):=rfl
@[simp] theorem Tok.enc_1(t:Tok):t.enc[1]?=some (.str t.text):=rfl
@[simp] theorem Tok.enc_2(t:Tok):t.enc[2]?=some (.int .i64 t.line):=rfl
@[simp] theorem Tok.enc_3(t:Tok):t.enc[3]?=some (.int .i64 t.col):=rfl
@[simp] theorem Tok.enc_g0(t:Tok)(h:0<t.enc.length):t.enc[0]=.int .i64 t.kind:=rfl
@[simp] theorem Tok.enc_g1(t:Tok)(h:1<t.enc.length):t.enc[1]=.str t.text:=rfl
@[simp] theorem Tok.enc_g2(t:Tok)(h:2<t.enc.length):t.enc[2]=.int .i64 t.line:=rfl
@[simp] theorem Tok.enc_g3(t:Tok)(h:3<t.enc.length):t.enc[3]=.int .i64 t.col:=rfl
@[simp] theorem Tok.cut_enc(t:Tok):cut t.enc 0 4=t.enc:=rfl
@[simp] theorem Tok.cut_map(t:Tok):cut (t.enc.map AC.d) 0 4=t.enc.map .d:=rfl
inductive fo where
|mk (kind:Int) (text:di) (n line col:Int) (types:List fZ) (names:List di) (kids:List fo)
mutual
def fo.enc:fo->List D
|.mk k t n a b ts ns ks=>[.int .i64 k,.str t,.int .i64 n,.int .i64 a,.int .i64 b,.sl false 4 (ts.map fZ.enc),.sl false 1 (encS ns),.sl false 8 (fo.encs ks)]
def fo.encs:List fo->List (List D)
|[]=>[]
|n::l=>fo.enc n::fo.encs l
end
def fo.encs_map(l:List fo):fo.encs l=l.map fo.enc:=by
 induction l with
 |nil=>rfl
 |cons n l ih=>simp[fo.encs,ih]
def mZ:fo:=.mk 0 (bs []) 0 0 0 [] [] []
def fo.kind:fo->Int|.mk k _ _ _ _ _ _ _=>k
def fo.text:fo->di|.mk _ t _ _ _ _ _ _=>t
def fo.n:fo->Int|.mk _ _ n _ _ _ _ _=>n
def fo.line:fo->Int|.mk _ _ _ a _ _ _ _=>a
def fo.col:fo->Int|.mk _ _ _ _ b _ _ _=>b
def fo.types:fo->List fZ|.mk _ _ _ _ _ t _ _=>t
def fo.names:fo->List di|.mk _ _ _ _ _ _ s _=>s
def fo.kids:fo->List fo|.mk _ _ _ _ _ _ _ l=>l
def fo.enc_eq(t:fo):t.enc=[.int .i64 t.kind,.str t.text,.int .i64 t.n,.int .i64 t.line,.int .i64 t.col,.sl false 4 (t.types.map fZ.enc),.sl false 1 (encS t.names),.sl false 8 (t.kids.map fo.enc)]:=by
 cases t;simp[fo.enc,fo.encs_map,fo.kind,fo.text,fo.n,fo.line,fo.col,fo.types,fo.names,fo.kids]
@[simp] theorem fo.enc_length(t:fo):t.enc.length=8:=by rw[t.enc_eq];try rfl
end Go.Gr
