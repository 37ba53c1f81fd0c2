/- Of ours. -/
import Derived.Test.YtlfjlokfciejnaaGreatJ00
set_option maxRecDepth 20000
set_option maxHeartbeats 4000000
set_option linter.unusedVariables false
set_option linter.unusedSectionVars false
set_option linter.unusedSimpArgs false
set_option linter.defProp false
open List renaming length->lN
open Bool renaming true->tT,false->oK
open Option renaming some->sS,none->nN
namespace Go.Abs
variable {h:PH}{ρ:RM}{α:Type}
variable [jE]
inductive ni where
|mv (x:MX)
|pick (c a b:MX)
|binI (op:BinOp) (x y:MX)
|divI (op:BinOp) (x y:MX)
|binS (op:BinOp) (x y:MX)
|cat (x y:MX)
|binB (op:BinOp) (x y:MX)
|not (x:MX)
|neg (x:MX)
|convI (k:IntKind) (x:MX)
|boxP (x:MX)
|boxM (x:MX)
|alloc (z:List D)
|build (z:List D) (ps:List (Nat × Nat × MX))
|buildSl (s:Nat) (xs:List MX)
|buildSlM (s:Nat) (xs:List MX)
|load (ag:Bool) (sz:Nat) (x:MX)
|store (sz:Nat) (a v:MX)
|faddr (off:Nat) (x:MX)
|iaddrS (s:Nat) (x i:MX)
|iaddrA (len s:Nat) (x i:MX)
|idxS (x i:MX)
|len (x:MX)
|lenS (x:MX)
|nilck (x:MX)
|extract (x:MX) (i:Nat)
|slice (s:Nat) (x:MX) (lo hi:Option MX)
|sliceS (x:MX) (lo hi:Option MX)
|append (s bytes:Nat) (x y:MX)
|mkfn (f:FuncId) (k_:List MX)
|call (f:FuncId) (xs:List MX)
|mkmap
|mlook (kk:Nat) (ok ag:Bool) (z:List D) (x k:MX)
|mset (kk:Nat) (x k v:MX)
|mkslM (z:List D) (bytes:Nat) (x y:MX)
|eqAg (ne:Bool) (ks:List Nat) (x y:MX)
|callM (f:FuncId) (xs:List MX)
|calldM (x:MX) (xs:List MX)
|isNil (ne:Bool) (x:MX)
|isNilP (ne:Bool) (x:MX)
|minI (mx:Bool) (x y:MX)
|mkifc (T:TypeId) (ag:Bool) (x:MX)
|callX (f:FuncId) (xs:List MX)
|panicX (x:MX)
|copy (s:Nat) (x y:MX)
def zR(mx:Bool)(a b:Int):Int:=if mx=tT then(if b>a then b else a)else(if b<a then b else a)
def Hl(v:Value):Prop:=∃t,v=.bool t
def vP:Nat->D->D->Option Bool
|0,.int k a,.int k' b=>if k=k' then sS (decide (a=b))else nN
|1,.str a,.str b=>sS (decide (a=b))
|2,.bool a,.bool b=>sS (a==b)
|3,.sc (.agg ⟨[.int k a,.string s]⟩),.sc (.agg ⟨[.int k' b,.string t]⟩)=>if k=k' then sS (decide (a=b)&&decide (s=t))else nN
|_,_,_=>nN
def tZ:Nat->AV->AV
|3,.ag [.d (.int k a),.d (.str s)]=>.c (.d (.sc (.agg ⟨[.int k a,.string s]⟩)))
|3,_=>.a? []
|_,v=>v
@[simp] theorem zNk(v:AV):tZ 0 v=v:=oF
@[simp] theorem zNl(v:AV):tZ 1 v=v:=oF
@[simp] theorem zNm(k:IntKind)(a:Int)(s:fD):tZ 3 (.ag [.d (.int k a),.d (.str s)])=.c (.d (.sc (.agg ⟨[.int k a,.string s]⟩))):=oF
def pI:List D->List D->List (D × AV)
|k::ks,v::vs=>(k,.c (.d v))::pI ks vs
|_,_=>[]
def d?(kk:Nat)(d:D):List (D × AV)->Nat->Option (Option (Nat × AV))
|[],_=>sS nN
|e::es,i=>match vP kk d e.1 with
 |some tT=>sS (sS (i,e.2))
 |some oK=>d? kk d es (i+1)
 |none=>nN
def lI(ag:Bool)(z:oQ):AV:=match ag with
|true=>.ag (z.map .d)
|false=>.c (.d (z.headD .any))
def CR:List Nat->List D->List D->Option Bool
|[],[],[]=>sS tT
|k::ks,a::as,b::bs=>match vP k a b,CR ks as bs with
 |some x,sS y=>sS (x&&y)
 |_,_=>nN
|_,_,_=>nN
def callee(P : Program) (f : FuncId) : Bool := match P.funcs[f]? with | some fn => fn.name != "runtime.NumGoroutine" && fn.body.isSome | none => oK
def h_(P:Program)(f:FuncId)(args:sQ)(v:DV):Prop:=
 callee P f=tT/\∀(h:PH) (w:World) (_o:oP),(∀B o,h B=sS o->w.heap[B]?=sS o)->Ac P h->jE.ok h (λ_=>True) w->il h args _o->
  Calls P f _o.toArray w λe w'=>∃(vC:Value) (h':PH),e=.returned vC/\h.le h'/\(∀B,B<w.heap.size->h' B=h B)/\(∀B o,h' B=sS o->w'.heap[B]?=sS o)/\
   w.heap.size<=w'.heap.size/\(∀B,B<w.heap.size->w'.heap[B]?=w.heap[B]?)/\Same w w'/\jJ h' v vC
def q_(P:Program)(f:FuncId)(args:oo)(bs:oV)(v:AV)(_d:oV):Prop:=
 callee P f=tT/\lN bs<=lN _d/\(∀i,i<lN _d->r_ _d i≠.c?)/\v.lv (live _d)=tT/\(∀b,b∈_d->b.lv (live _d)=tT)/\
 ∀(h:PH) (ρ:RM) (w:World) (_o:oP),E_ h ρ (r_ bs) w.heap->Ac P h->jE.ok h (jK ρ (r_ bs)) w->iC h ρ args _o->
  Calls P f _o.toArray w λe w'=>∃(vC:Value) (h':PH) (ρ':RM),e=.returned vC/\tY h ρ (r_ bs) w.heap h' ρ' (r_ _d) w'.heap/\E_ h' ρ' (r_ _d) w'.heap/\Same w w'/\g_ h' ρ' v vC/\∀i,i<lN bs->ρ' i=ρ i
def FW(P:Program)(f:FuncId)(args:oo)(bs:oV)(pv:Value)(_d:oV):Prop:=
 callee P f=tT/\lN bs<=lN _d/\(∀i,i<lN _d->r_ _d i≠.c?)/\(∀b,b∈_d->b.lv (live _d)=tT)/\
 ∀(h:PH) (ρ:RM) (w:World) (_o:oP),E_ h ρ (r_ bs) w.heap->Ac P h->jE.ok h (jK ρ (r_ bs)) w->iC h ρ args _o->
  Calls P f _o.toArray w λe w'=>∃(h':PH) (ρ':RM),e=.panicked [{v:=pv,recovered:=oK}]/\tY h ρ (r_ bs) w.heap h' ρ' (r_ _d) w'.heap/\E_ h' ρ' (r_ _d) w'.heap/\Same w w'/\∀i,i<lN bs->ρ' i=ρ i
inductive XO where
|ret (v:AV)
|pan (pv:Value)
def jM(P:Program)(f:FuncId)(args:oo)(bs:oV):XO->oV->Prop
|.ret v,_d=>q_ P f args bs v _d
|.pan pv,_d=>FW P f args bs pv _d
def Ad(P:Program)(f:FuncId)(vs:oo)(m:Hp)(n:Nat)(K:AV->oO->oU->Nat->Prop):Prop:=
∃(l:oO) (args:oo) (bs:oV) (v:AV) (_d:oV),q_ P f args bs v _d/\l.Nodup/\(∀i,i∈l->i<n)/\vs=AV.b? (Z' l) args/\AV.lts (lN l) args=tT/\(∀b,b∈bs->b.lt (lN l)=tT)/\p8 m (Z' l) l bs/\xq m n (lN _d-lN bs)/\
 K (v.N_ (Z' (l++S_ n (lN _d-lN bs)))) [] (ng (Z' (l++S_ n (lN _d-lN bs))) (l++S_ n (lN _d-lN bs)) _d) (n+(lN _d-lN bs))
def JI(P:Program)(f:FuncId)(vs:oo)(m:Hp)(n:Nat)(K:Value->oU->Nat->Prop):Prop:=
∃(l:oO) (args:oo) (bs:oV) (pv:Value) (_d:oV),FW P f args bs pv _d/\l.Nodup/\(∀i,i∈l->i<n)/\vs=AV.b? (Z' l) args/\AV.lts (lN l) args=tT/\(∀b,b∈bs->b.lt (lN l)=tT)/\p8 m (Z' l) l bs/\xq m n (lN _d-lN bs)/\
 K pv (ng (Z' (l++S_ n (lN _d-lN bs))) (l++S_ n (lN _d-lN bs)) _d) (n+(lN _d-lN bs))
mutual
def DV.av:DV->AV
|.one x=>.c (.d x)
|.agg cs=>.ag (cs.map .d)
|.a? vs=>.a? (DV.avs vs)
def DV.avs:List DV->List AV
|[]=>[]
|v::vs=>DV.av v::DV.avs vs
end
mutual
def jJ.av{h:PH}{ρ:RM}:∀{x:DV} {v:Value},jJ h x v->g_ h ρ x.av v
|.one x,v,r=>by simp only[jJ]at r;simp only[DV.av,g_,m_];exact r
|.agg cs,v,r=>by
 simp only[jJ]at r;let⟨vs,h1,h2,h3⟩:=r;simp only[DV.av,g_];exact⟨vs,h1,uM h2,gY.of_D h3⟩
|.a? xs,v,r=>by
 simp only[jJ]at r;let⟨vs,h1,h2⟩:=r;simp only[DV.av,g_];exact⟨vs,h1,il.avs h2⟩
def il.avs{h:PH}{ρ:RM}:∀{xs:List DV} {vs:List Value},il h xs vs->iC h ρ (DV.avs xs) vs
|[],vs,r=>by simpa[il,DV.avs,iC]using r
|_::_,[],r=>by simp[il]at r
|x::xs,v::vs,r=>by
 simp only[il]at r;simp only[DV.avs,iC];exact⟨jJ.av r.1,il.avs r.2⟩
end
def DR:AV->Option DV
|.c (.d x)=>sS (.one x)
|.ag cs=>(A? cs).map .agg
|_=>nN
def E5:List AV->Option (List DV)
|[]=>sS []
|v::vs=>match DR v,E5 vs with
 |some x,sS xs=>sS (x::xs)
 |_,_=>nN
def zIs{v:AV}{x:DV}{u:Value}(e:DR v=sS x)(r:g_ h ρ v u):jJ h x u:=by
 unfold DR at e;split at e
 .cases e;simpa only[g_,m_,jJ]using r
 next cs=>
  simp only[aP]at e;let⟨ds,h1,h2⟩:=e;subst h2;have:=FV h1;subst this;simp only[g_]at r;let⟨vs,e1,e2,e3⟩:=r;simp only[jJ];exact⟨vs,e1,uM e2,gY.to_D e3⟩
 .cases e
def Vk:∀{vs:List AV} {xs:List DV} {us:List Value},E5 vs=sS xs->iC h ρ vs us->il h xs us
|[],xs,us,e,r=>by simp[E5]at e;subst e;simpa[iC,il]using r
|v::vs,xs,[],e,r=>by simp[iC]at r
| v::vs,xs,u::us,e,r=>by
 simp only[iC]at r;simp only[E5]at e;split at e
 next x xs' h1 h2=>
  cases e;simp only[il];exact⟨zIs h1 r.1,Vk h2 r.2⟩
 .cases e
def cut(cs:List α)(off sz:Nat):List α:=if off=0/\lN cs=sz then cs else(cs.drop off).take sz
def put(cs:List α)(off:Nat)(l:List α):List α:=if off=0/\lN l=lN cs then l else z_ cs off l
def Ae(ag:Bool)(sz:Nat)(cs:o7)(off:Nat)(K:AV->Prop):Prop:=
 match ag with
 |true=>off+sz<=lN cs/\K (.ag (cut cs off sz))
 |false=>match cs[off]? with
  |some c=>K (.c c)
  |none=>False
def E8(ag:Bool)(sz:Nat)(cs:oQ)(off:Nat)(K:AV->Prop):Prop:=
 match ag with
 |true=>off+sz<=lN cs/\K (.ag ((cut cs off sz).map .d))
 |false=>match cs[off]? with
  |some c=>K (.c (.d c))
  |none=>False
def DT(get:Nat->AV):List AC->List (Nat × Nat × MX)->Option (List AC)
|cs,[]=>sS cs
|cs,(off,sz,x)::ps=>match wo (X get x)with
 |some l=>if lN l=sz/\off+sz<=lN cs then DT get (put cs off l) ps else nN
 |none=>nN
def wu(get:Nat->AV)(s:Nat):List MX->Option (List (List D))
|[]=>sS []
|x::xs=>match cellsD (X get x),wu get s xs with
 |some l,sS r=>if lN l=s then sS (l::r)else nN
 |_,_=>nN
def tq(get:Nat->AV)(s:Nat):List MX->Option (List (List AC))
|[]=>sS []
|x::xs=>match wo (X get x),tq get s xs with
 |some l,sS r=>if lN l=s then sS (l::r)else nN
 |_,_=>nN
def E9(get:Nat->AV):List MX->Option (List AC)
|[]=>sS []
|x::xs=>match X get x,E9 get xs with
 |.c c,sS r=>if c.one then sS (c::r)else nN
 |_,_=>nN
def bnd(get:Nat->AV)(d:Nat)(K:Nat->Prop):Option MX->Prop
|none=>K d
|some x=>match X get x with
 |.c (.d (.int _ j))=>0<=j/\K j.toNat
 |_=>False
def qb(get:Nat->AV)(m:Hp)(s:Nat)(K:oh->oO->Prop)(y:MX):Prop:=
 match X get y with
 |.c (.d (.sl _ s' ys))=>s=s'/\K (ys.map (·.map .d)) []
 |.c (.x_ s' b off len)=>match m b with
  |.arr s'' es=>s=s'/\s=s''/\off+len<=lN es/\K ((es.drop off).take len) [b]
  |_=>False
 |_=>False
def ev(P:Program) (get:Nat->AV) (m:Hp) (n:Nat) (K:AV->oO->oU->Nat->Prop):ni->Prop
|.mv x=>K (X get x) [] [] n
|.pick c a b=>match X get c with
 |.c (.d (.bool t))=>(t=tT->K (X get a) [] [] n)/\(t=oK->K (X get b) [] [] n)
 |_=>False
|.binI op x y=>match X get x,X get y with
 |.c (.d (.int k a)),.c (.d (.int k' b))=>k=k'/\(match Hd op k a b with|some d=>K (.c (.d d)) [] [] n|none=>False)
 |_,_=>False
|.divI op x y=>match X get x,X get y with
 |.c (.d (.int k a)),.c (.d (.int k' b))=>k=k'/\b≠0/\(match op with|.quo=>K (.c (.d (.int k (k.wrap (a.tdiv b))))) [] [] n|.rem=>K (.c (.d (.int k (a.tmod b)))) [] [] n|_=>False)
 |_,_=>False
|.binS op x y=>match X get x,X get y with
 |.c (.d (.str a)),.c (.d (.str b))=>(match Hf op a b with|some d=>K (.c (.d d)) [] [] n|none=>False)
 |_,_=>False
|.cat x y=>match X get x,X get y with
 |.c (.d (.str a)),.c (.d (.str b))=>a.size+b.size<=zaf/\K (.c (.d (.str (a++b)))) [] [] n
 |_,_=>False
|.binB op x y=>match X get x,X get y with
 |.c (.d (.bool a)),.c (.d (.bool b))=>(match Hg op a b with|some d=>K (.c (.d d)) [] [] n|none=>False)
 |_,_=>False
|.not x=>match X get x with
 |.c (.d (.bool a))=>K (.c (.d (.bool (!a)))) [] [] n
 |_=>False
|.neg x=>match X get x with
 |.c (.d (.int k a))=>K (.c (.d (.int k (k.wrap (0-a))))) [] [] n
 |_=>False
|.convI k x=>match X get x with
 |.c (.d (.int _ a))=>K (.c (.d (.int k (k.wrap a)))) [] [] n
 |_=>False
|.boxP x=>match cellsD (X get x)with
 |some ds=>K (.c (.d (.rp ds 0))) [] [] n
 |none=>False
|.boxM x=>match wo (X get x)with
 |some cs=>m n=.c?/\K (.c (.ptr n 0)) [] [(n,.box cs)] (n+1)
 |none=>False
|.alloc z=>m n=.c?/\K (.c (.ptr n 0)) [] [(n,.box (z.map .d))] (n+1)
|.build z ps=>match DT get (z.map .d) ps with
 |some cs=>K (.ag cs) [] [] n
 |none=>False
|.buildSl s xs=>match wu get s xs with
 |some es=>K (.c (.d (.sl tT s es))) [] [] n
 |none=>False
|.buildSlM s xs=>match tq get s xs with
 |some es=>m n=.c?/\K (.c (.x_ s n 0 (lN xs))) [] [(n,.arr s es)] (n+1)
 |none=>False
| .load ag sz x=>match X get x with
 |.c (.d (.rp cs off))=>E8 ag sz cs off λv=>K v [] [] n
 |.c (.ptr b off)=>match m b with
  |.box cs=>Ae ag sz cs off λv=>K v [b] [] n
  |_=>False
 |.c (.ept s b i off)=>match m b with
  |.arr s' es=>s=s'/\(match es[i]? with|some e=>Ae ag sz e off λv=>K v [b] [] n|none=>False)
  |_=>False
 |.c (.d (.sc (.pointer (sS ⟨B,off,nN⟩))))=>match jE.row B with
  |some ds=>Ae ag sz (ds.map .d) off λv=>K v [] [] n
  |none=>False
 |_=>False
| .store sz a v=>match X get a,wo (X get v)with
 |.c (.ptr b off),sS l=>match m b with
  |.box cs=>lN l=sz/\off+sz<=lN cs/\K (.c (.d .any)) [] [(b,.box (put cs off l))] n
  |_=>False
 |.c (.ept s b i off),sS l=>match m b with
  |.arr s' es=>s=s'/\lN l=sz/\off+sz<=s/\(match es[i]? with|some e=>K (.c (.d .any)) [] [(b,.arr s (es.set i (put e off l)))] n|none=>False)
  |_=>False
 |_,_=>False
|.faddr off x=>match X get x with
 |.c (.ptr b o)=>K (.c (.ptr b (o+off))) [] [] n
 |.c (.ept s b i o)=>K (.c (.ept s b i (o+off))) [] [] n
 |.c (.d (.rp cs o))=>K (.c (.d (.rp cs (o+off)))) [] [] n
 |.c (.d (.sc (.pointer (sS ⟨B,o,nN⟩))))=>K (.c (.d (.sc (.pointer (sS ⟨B,o+off,nN⟩))))) [] [] n
 |_=>False
|.iaddrS s x i=>match X get x,X get i with
 |.c (.d (.sl _ s' es)),.c (.d (.int _ j))=>s=s'/\0<=j/\(match es[j.toNat]? with|some e=>K (.c (.d (.rp e 0))) [] [] n|none=>False)
 |.c (.x_ s' b off len),.c (.d (.int _ j))=>s=s'/\0<=j/\j<len/\K (.c (.ept s b (off+j.toNat) 0)) [] [] n
 |.c (.d (.sc (.slice (sS ⟨B,q,nN⟩) len _))),.c (.d (.int _ j))=>0<=j/\j<len/\K (.c (.d (.sc (.pointer (sS ⟨B,q+j.toNat*s,nN⟩))))) [] [] n
 |_,_=>False
|.iaddrA len s x i=>match X get x,X get i with
 |.c (.ptr b o),.c (.d (.int _ j))=>0<=j/\j<len/\K (.c (.ptr b (o+j.toNat*s))) [] [] n
 |.c (.ept s' b i' o),.c (.d (.int _ j))=>0<=j/\j<len/\K (.c (.ept s' b i' (o+j.toNat*s))) [] [] n
 |.c (.d (.rp cs o)),.c (.d (.int _ j))=>0<=j/\j<len/\K (.c (.d (.rp cs (o+j.toNat*s)))) [] [] n
 |_,_=>False
|.idxS x i=>match X get x,X get i with
 |.c (.d (.str t)),.c (.d (.int _ j))=>0<=j/\(match t.data.toList[j.toNat]? with|some b=>K (.c (.d (.int .u8 b.toNat))) [] [] n|none=>False)
 |_,_=>False
| .len x=>match X get x with
 |.c (.d (.sl _ _ es))=>K (.c (.d (.int .i64 (lN es)))) [] [] n
 |.c (.x_ _ b off l)=>match m b with
  |.arr _ es=>off+l<=lN es/\K (.c (.d (.int .i64 l))) [b] [] n
  |_=>False
 |.c (.d (.sc (.slice (sS _) l _)))=>l<=zaf/\K (.c (.d (.int .i64 l))) [] [] n
 |_=>False
|.lenS x=>match X get x with
 |.c (.d (.str t))=>K (.c (.d (.int .i64 t.size))) [] [] n
 |_=>False
|.nilck x=>match X get x with
 |.c (.ptr b o)=>K (.c (.ptr b o)) [] [] n
 |.c (.ept s b i o)=>K (.c (.ept s b i o)) [] [] n
 |.c (.d (.rp cs o))=>K (.c (.d (.rp cs o))) [] [] n
 |.c (.d (.sc (.pointer (sS a))))=>K (.c (.d (.sc (.pointer (sS a))))) [] [] n
 |_=>False
| .extract x i=>match X get x with
 |.a? vs=>match vs[i]? with
  |some v=>K v [] [] n
  |none=>False
 |_=>False
|.slice s x lo hi=>match X get x with
 |.c (.d (.sl e s' es))=>s=s'/\bnd get (lN es) (λh=>bnd get 0 (λl=>l<=h/\h<=lN es/\K (.c (.d (.sl (e&&hi.isNone) s ((es.take h).drop l)))) [] [] n) lo) hi
 |.c (.x_ s' b off len)=>s=s'/\bnd get len (λh=>bnd get 0 (λl=>l<=h/\h<=len/\K (.c (.x_ s b (off+l) (h-l))) [] [] n) lo) hi
 |_=>False
|.sliceS x lo hi=>match X get x with
 |.c (.d (.str t))=>bnd get t.size (λh=>bnd get 0 (λl=>l<=h/\h<=t.size/\K (.c (.d (.str (t.extract l h)))) [] [] n) lo) hi
 |_=>False
| .append s bytes x y=>match X get x with
 |.c (.x_ s' b off len)=>match m b with
  | .arr s'' es=>s=s'/\s=s''/\off=0/\len<=lN es/\m n=.c?/\qb get m s (λys rd=>(len+lN ys)*bytes<=70368744177664/\(rd=[]\/rd=[b]\/b∉rd)/\
    K (.c (.x_ s n 0 (len+lN ys))) rd [(b,.dead),(n,.arr s (es.take len++ys))] (n+1)) y
  |_=>False
 |.c (.d (.sl tT s' []))=>m n=.c?/\qb get m s (λys rd=>lN ys*bytes<=70368744177664/\K (.c (.x_ s n 0 (lN ys))) rd [(n,.arr s ys)] (n+1)) y
 |.c (.d (.sl tT s' (e::es)))=>s=s'/\m n=.c?/\qb get m s (λys rd=>(ys=[]->K (.c (.d (.sl tT s (e::es)))) rd [] (n+1))/\(ys≠[]->((e::es).length+lN ys)*bytes<=70368744177664/\K (.c (.x_ s n 0 ((e::es).length+lN ys))) rd [(n,.arr s ((e::es).map (·.map .d)++ys))] (n+1))) y
 |_=>False
| .mkfn f k_=>match E9 get k_ with
 |some cs=>match A? cs with
  |some ds=>K (.c (.d (.fn (.func f) ds))) [] [] n
  |none=>K (.c (.fn (.func f) cs)) [] [] n
 |none=>False
|.call f xs=>match E5 (xs.map (X get))with
 |some ds=>∃v,h_ P f ds v/\K v.av [] [] n
 |none=>False
|.callM f xs=>Ad P f (xs.map (X get)) m n K
|.calldM x xs=>match X get x with
 |.c (.fn (.func f) k_)=>Ad P f (xs.map (X get)++k_.map .c) m n K
 |.c (.d (.fn (.func f) k_))=>Ad P f (xs.map (X get)++k_.map λc=>.c (.d c)) m n K
 |_=>False
| .mkifc T ag x=>match ag,X get x with
 |true,.ag cs=>(match A? cs with
  |some ds=>K (.c (.d (.ifc T tT ds))) [] [] n
  |none=>False)
 |false,.c (.d d)=>d.one=tT/\K (.c (.d (.ifc T oK [d]))) [] [] n
 |_,_=>False
|.callX _ _=>False
|.panicX _=>False
| .copy s x y=>match X get x with
 |.c (.x_ s' b off len)=>match m b with
  |.arr s'' es=>s=s'/\s=s''/\off=0/\len<=lN es/\qb get m s (λys rd=>lN ys<=len/\K (.c (.d (.int .i64 (lN ys)))) rd [(b,.arr s (ys++es.drop (lN ys)))] n) y
  |_=>False
 |_=>False
|.minI mx x y=>match X get x,X get y with
 |.c (.d (.int k a)),.c (.d (.int k' b))=>k=k'/\K (.c (.d (.int k (zR mx a b)))) [] [] n
 |_,_=>False
|.isNilP ne x=>match X get x with
 |.c (.d (.sc (.pointer nN)))=>K (.c (.d (.bool !ne))) [] [] n
 |.c (.d (.rp _ _))=>K (.c (.d (.bool ne))) [] [] n
 |.c (.ptr _ _)=>K (.c (.d (.bool ne))) [] [] n
 |.c (.ept _ _ _ _)=>K (.c (.d (.bool ne))) [] [] n
 |_=>False
|.isNil ne x=>match X get x with
 |.c (.d (.sl _ _ (_::_)))=>K (.c (.d (.bool ne))) [] [] n
 |.c (.d (.sl _ _ []))=>K (.c (.op Hl)) [] [] n
 |.c (.x_ _ _ _ len)=>0<len/\K (.c (.d (.bool ne))) [] [] n
 |_=>False
|.mkmap=>m n=.c?/\K (.c (.map n)) [] [(n,.map [])] (n+1)
| .mlook kk ok ag z x k=>match X get x,tZ kk (X get k)with
 | .c (.map b),.c (.d d)=>match m b with
  |.map es=>match d? kk d es 0 with
   |some (sS (_,v))=>K (if ok then .a? [v,.c (.d (.bool tT))]else v) [b] [] n
   |some nN=>K (if ok then .a? [lI ag z,.c (.d (.bool oK))]else lI ag z) [b] [] n
   |none=>False
  |_=>False
 |.c (.d (.mp ks us)),.c (.d d)=>match d? kk d (pI ks us) 0 with
  |some (sS (_,v))=>K (if ok then .a? [v,.c (.d (.bool tT))]else v) [] [] n
  |some nN=>K (if ok then .a? [lI ag z,.c (.d (.bool oK))]else lI ag z) [] [] n
  |none=>False
 |.c (.d (.sc (.map nN))),.c (.d _)=>K (if ok then .a? [lI ag z,.c (.d (.bool oK))]else lI ag z) [] [] n
 |_,_=>False
| .mset kk x k v=>match X get x,tZ kk (X get k)with
 | .c (.map b),.c (.d d)=>match m b with
  |.map es=>match d? kk d es 0 with
   |some (sS (i,_))=>K (.c (.d .any)) [] [(b,.map (es.set i (d,X get v)))] n
   |some nN=>K (.c (.d .any)) [] [(b,.map (es++[(d,X get v)]))] n
   |none=>False
  |_=>False
 |_,_=>False
|.mkslM z bytes x y=>match X get x,X get y with
 |.c (.d (.int .i64 j)),.c (.d (.int .i64 l))=>0<=j/\j<=l/\l*bytes<=70368744177664/\m n=.c?/\K (.c (.x_ (lN z) n 0 j.toNat)) [] [(n,.arr (lN z) ((List.replicate j.toNat z).map (·.map .d)))] (n+1)
 |_,_=>False
| .eqAg ne ks x y=>match X get x,X get y with
 | .ag cs,.ag cs'=>match A? cs,A? cs' with
  |some a,sS b=>match CR ks a b with
   |some t=>K (.c (.d (.bool (t^^ne)))) [] [] n
   |none=>False
  |_,_=>False
 |_,_=>False
def isInt(P:Program)(T:TypeId):Bool:=match P.underlying T with|some (.int _)=>tT|_=>oK
def BI(P:Program)(T:TypeId):Option TypeInfo:=match P.underlying T with|some (.slice e)=>P.info? e|_=>nN
def Ow(P:Program)(T:TypeId):Option (Nat × TypeInfo):=match P.underlying T with|some (.array n e)=>(P.info? e).map λi=>(n,i)|_=>nN
def Vl(P:Program)(T:TypeId)(f:Nat):Option (Nat × TypeId × TypeInfo):=
 match P.underlying T with
 |some (.struct fs)=>match fs[f]? with
  |some x=>(P.info? x.type).map λi=>(x.offset,x.type,i)
  |none=>nN
 |_=>nN
def CU:Option MX->Option Operand->Bool
|none,nN=>tT
|some x,sS o=>M_ x o
|_,_=>oK
def zeroOf(i:TypeInfo):oP:=match i.zero with|some z=>z.cells.toList|none=>[]
def FX(P:Program)(pl:Nat->Option (Nat × Nat)):List (Nat × Nat × MX)->List (Nat × Operand)->Bool
|[],[]=>tT
|(off,sz,x)::ps,(i,o)::os=>(pl i==sS (off,sz))&&M_ x o&&FX P pl ps os
|_,_=>oK
def FY:List MX->Nat->List (Nat × Operand)->Bool
|[],_,[]=>tT
|x::xs,k,(i,o)::os=>(i==k)&&M_ x o&&FY xs (k+1) os
|_,_,_=>oK
def ww(P:Program):List Nat->Nat->List Field->Bool
|[],_,[]=>tT
| k :: ks, i, f :: fs => f.offset == i && f.name != "_" && (match P.underlying f.type with | some (.int _) => k == 0 | some .string => k == 1 | some .bool => k == 2 | _ => oK) && ww P ks (i + 1) fs
|_,_,_=>oK
def Hm(P:Program)(T:TypeId)(kk:Nat):Bool:=match P.underlying T with
|some (.map k _)=>(match P.underlying k with|some (.int _)=>kk==0|some .string=>kk==1|some .bool=>kk==2|some (.struct fs)=>kk==3&&ww P [0,1] 0 fs.toList&& !P.stoodInHeld k|_=>oK)
|_=>oK
def Vm(P:Program)(T:TypeId):Option TypeId:=match P.underlying T with|some (.map _ e)=>sS e|_=>nN
def Ox(P:Program)(T:TypeId)(z:oQ)(bytes:Nat):Bool:=match BI P T with
|some i=>i.size==lN z&&i.bytes==bytes&&decide (0<bytes)&&decide (0<lN z)&&i.zero.isSome&&zQ z (zeroOf i)
|none=>oK
def Oy(P:Program)(T:TypeId)(ks:oO):Bool:=match P.underlying T with
|some (.struct fs)=>ww P ks 0 fs.toList
|_=>oK
def zDv{P:Program}{T:TypeId}{ks:oO}(h:Oy P T ks=tT):∃fs,P.underlying T=sS (.struct fs)/\ww P ks 0 fs.toList=tT:=by
 unfold Oy at h;split at h
 next fs hu=>exact⟨fs,hu,h⟩
 .cases h
def FZ(P:Program)(fs:Array Field)(i:Nat):Option (Nat × Nat):=match fs[i]? with|some f=>(P.info? f.type).map λt=>(f.offset,t.size)|none=>nN
def gu(P:Program):ni->Op->Bool
|.mv x,.move o=>M_ x o
|.mv x,.assign o=>M_ x o
|.pick c a b,.pick c' a' b'=>M_ c c'&&M_ a a'&&M_ b b'
|.binI op x y,.binOp op' _ x' y' _=>decide (op=op')&&M_ x x'&&M_ y y'
|.divI op x y,.binOp op' _ x' y' _=>decide (op=op')&&(decide (op=.quo)||decide (op=.rem))&&M_ x x'&&M_ y y'
|.binS op x y,.binOp op' _ x' y' _=>decide (op=op')&&M_ x x'&&M_ y y'
|.cat x y,.binOp op' _ x' y' _=>decide (op'=.add)&&M_ x x'&&M_ y y'
|.binB op x y,.binOp op' T x' y' _=>decide (op=op')&&(match P.underlying T with|some .bool=>tT|_=>oK)&&M_ x x'&&M_ y y'
|.not x,.unOp op _ o=>decide (op=.not)&&M_ x o
|.neg x,.unOp op _ o=>decide (op=.neg)&&M_ x o
|.convI k x,.convert s d o=>(match P.underlying d with|some (.int k')=>decide (k=k')|_=>oK)&&(match P.underlying s with|some _=>tT|none=>oK)&&M_ x o
|.boxP x,.box T o=>M_ x o
|.boxM x,.box T o=>M_ x o
|.alloc z,.alloc T=>(match P.info? T with|some i=>i.zero.isSome&&zQ z (zeroOf i)|none=>oK)
| .build z ps,.build T os=>(match P.info? T,P.underlying T with
  |some i,sS (.struct fs)=>i.zero.isSome&&zQ z (zeroOf i)&&fs.toList.all (λf=>(P.info? f.type).isSome)&&FX P (FZ P fs) ps os.toList
  |some i,sS (.array _ e)=>(match P.info? e with|some j=>i.zero.isSome&&zQ z (zeroOf i)&&FX P (λk=>sS (k*j.size,j.size)) ps os.toList|none=>oK)
  |_,_=>oK)
|.buildSl s xs,.buildSlice T n os=>(match BI P T with|some i=>i.size==s&&i.zero.isSome&&(zeroOf i).length==s&&lN xs==n&&decide (n*s<=16777216)&&decide (n<=16777216)&&FY xs 0 os.toList|none=>oK)
|.buildSlM s xs,.buildSlice T n os=>(match BI P T with|some i=>i.size==s&&i.zero.isSome&&(zeroOf i).length==s&&lN xs==n&&decide (n*s<=16777216)&&decide (n<=16777216)&&FY xs 0 os.toList|none=>oK)
|.load ag sz x,.load T o=>CQ P T==sS (ag,sz)&&M_ x o
|.store sz a v,.store T a' v'=>(match P.info? T with|some i=>i.size==sz&&decide (0<sz)|none=>oK)&&M_ a a'&&M_ v v'
|.faddr off x,.fieldAddr T o f=>(match Vl P T f with|some (off',_,i)=>off==off'&&i.size !=0|none=>oK)&&M_ x o
|.iaddrS s x i,.indexAddr T x' i'=>(match BI P T with|some e=>e.size==s|none=>oK)&&M_ x x'&&M_ i i'
|.iaddrA len s x i,.indexAddr T x' i'=>(match Ow P T with|some (n,e)=>n==len&&e.size==s|none=>oK)&&M_ x x'&&M_ i i'
|.idxS x i,.index T x' i'=>(match P.underlying T with|some .string=>tT|_=>oK)&&M_ x x'&&M_ i i'
| .len x,.call c=>(match c.callee,c.args.toList,c.argTypes.toList with
  |.builtin .len,[o],[T]=>M_ x o&&(match P.underlying T with|some (.slice _)=>tT|_=>oK)
  |_,_,_=>oK)
| .lenS x,.call c=>(match c.callee,c.args.toList,c.argTypes.toList with
  |.builtin .len,[o],[T]=>M_ x o&&(match P.underlying T with|some .string=>tT|_=>oK)
  |_,_,_=>oK)
|.nilck x,.nilCheck o=>M_ x o
|.extract x i,.extract o j=>i==j&&M_ x o
|.slice s x lo hi,.slice T o l h mx=>(match BI P T with|some e=>e.size==s|none=>oK)&&mx.isNone&&M_ x o&&CU lo l&&CU hi h
|.sliceS x lo hi,.slice T o l h mx=>(match P.underlying T with|some .string=>tT|_=>oK)&&mx.isNone&&M_ x o&&CU lo l&&CU hi h
| .copy s x y,.call c=>(match c.callee,c.args.toList,c.argTypes.toList with
  |.builtin .copy,[o,o'],[T,_]=>M_ x o&&M_ y o'&&(match BI P T with|some e=>e.size==s&&decide (0<s)|none=>oK)
  |_,_,_=>oK)
| .append s bytes x y,.call c=>(match c.callee,c.args.toList,c.argTypes.toList with
  |.builtin .append,[o,o'],[T,T']=>M_ x o&&M_ y o'&& !isInt P T'&&(P.underlying T').isSome&&(match BI P T with|some e=>e.size==s&&e.bytes==bytes&&decide (0<bytes)&&decide (bytes<=1073741824)&&decide (0<s)&&e.zero.isSome&&(zeroOf e).length==s|none=>oK)
  |_,_,_=>oK)
|.mkfn f k_,.makeFunc fn first captured=>(match fn with|.func g=>f==g|_=>oK)&&first.isEmpty&&yl k_ captured.toList
|.call f xs,.call c=>(match c.callee with|.value (.func g)=>f==g|_=>oK)&&yl xs c.args.toList
|.callM f xs,.call c=>(match c.callee with|.value (.func g)=>f==g|_=>oK)&&yl xs c.args.toList
|.calldM x xs,.call c=>(match c.callee with|.value o=>M_ x o|_=>oK)&&yl xs c.args.toList
|.callX f xs,.call c=>(match c.callee with|.value (.func g)=>f==g|_=>oK)&&yl xs c.args.toList
|.panicX x,.panic o=>M_ x o
|.mkifc T ag x,.makeInterface U o=>T==U&&(match P.underlying T with|some (.interface _)=>oK|some d=>BH d==ag|none=>oK)&&M_ x o
|.mkmap,.makeMap _ r=>r.isNone
| .mlook kk ok ag z x k,.lookup T x' k' ok'=>ok==ok'&&M_ x x'&&M_ k k'&&Hm P T kk&&(match Vm P T with
  |some e=>(match P.info? e with|some i=>i.zero.isSome&&zQ z (zeroOf i)&&CQ P e==sS (ag,lN z)&&(match i.zero with|some (.agg _)=>ag|some (.tuple _)=>oK|some _=> !ag|none=>oK)|none=>oK)
  |none=>oK)
|.mset kk x k v,.mapUpdate T x' k' v'=>M_ x x'&&M_ k k'&&M_ v v'&&Hm P T kk
|.mset kk x k v,.insert T x' k' v'=>M_ x x'&&M_ k k'&&M_ v v'&&Hm P T kk
|.mkslM z bytes x y,.makeSlice T l c=>M_ x l&&M_ y c&&Ox P T z bytes
| .minI mx x y,.call c=>(match c.callee,c.args.toList with
  |.builtin .min,[o,o']=> !mx&&M_ x o&&M_ y o'
  |.builtin .max,[o,o']=>mx&&M_ x o&&M_ y o'
  |_,_=>oK)
|.isNilP ne x,.binOp op T x' y' _=>decide (op=if ne then .neq else .eql)&&M_ x x'&&(match y' with|.const (.pointer nN)=>tT|_=>oK)&&(match P.underlying T with|some (.pointer _)=>tT|_=>oK)
|.isNil ne x,.binOp op T x' y' _=>decide (op=if ne then .neq else .eql)&&M_ x x'&&(match y' with|.const (.slice nN 0 0)=>tT|_=>oK)&&(match P.underlying T with|some (.slice _)=>tT|_=>oK)
|.eqAg ne ks x y,.binOp op T x' y' _=>decide (op=if ne then .neq else .eql)&&M_ x x'&&M_ y y'&& !P.stoodInHeld T&& !P.eqGuardType P.depth T&&Oy P T ks
|_,_=>oK
end Go.Abs
namespace Go.Abs
variable {T U:TypeId}{o:Oper}{x y:MX}{ox oy:Operand}{w:World}{α:Type}{d:D}{cs:List D}{ag:Bool}
variable [jE]
section
variable {P:Program} {get:Nat->AV} {m:Hp} {n:Nat}
def Vn(ho:o.op=.move ox\/o.op=.assign ox)(h:M_ x ox=tT):gz P o get m [] [] (X get x):=by
 refine gz.Z_ λm' h1 ph ρ w a hr hg=>⟨a.eval ox,?_,iV h λk hk=>hg k ?_⟩
 .rcases ho with ho|ho<;>(unfold execOp;rw[ho];exact fF _)
 .rcases ho with ho|ho<;>(rw[ho];simp[Op.operands,hk])
def zHj{c:MX}{oc:Operand}(ho:o.op=.pick oc ox oy)(hc:M_ c oc=tT)(hx:M_ x ox=tT)(hy:M_ y oy=tT){t:Bool}(et:X get c=.c (.d (.bool t))):
  gz P o get m [] [] (if t then X get x else X get y):=by
 refine gz.Z_ λm' h1 ph ρ w a hr hg=>⟨if t then a.eval ox else a.eval oy,?_,?_⟩
 .have rc:=iV hc (ph:=ph) (ρ:=ρ) (get:=get) (a:=a) λk hk=>hg k (by rw[ho];simp[Op.operands,hk]);rw[et]at rc;simp only[g_,m_,RepD]at rc;unfold execOp;rw[ho];simp only[rc,asBool];apply fG (a:=t) (fF _);cases t<;>exact fF _
 .cases t
  .exact iV hy λk hk=>hg k (by rw[ho];simp[Op.operands,hk])
  .exact iV hx λk hk=>hg k (by rw[ho];simp[Op.operands,hk])
def JJ{op:BinOp}(ho:o.op=.binOp op T ox oy U)(hx:M_ x ox=tT)(hy:M_ y oy=tT)
  (H:∀(ph:PH) (ρ:RM) (a b:Value) (w:World),g_ ph ρ (X get x) a->g_ ph ρ (X get y) b->¬(a=.nilIface/\b=.nilIface)/\(∀c d,¬(a=.agg c/\b=.agg d))/\∃v,j_ P (binOp op T a b) w v w/\RepD ph d v):
  gz P o get m [] [] (.c (.d d)):=by
 refine gz.Z_ λm' h1 ph ρ w a hr hg=>?_;have r1:=iV hx (ph:=ph) (ρ:=ρ) (get:=get) (a:=a) λk hk=>hg k (by rw[ho];simp[Op.operands,hk]);have r2:=iV hy (ph:=ph) (ρ:=ρ) (get:=get) (a:=a) λk hk=>hg k (by rw[ho];simp[Op.operands,hk]);let⟨g1,g2,v,hv,rv⟩:=H ph ρ _ _ w r1 r2;refine⟨v,?_,by simpa only[g_,m_]using rv⟩;unfold execOp;rw[ho];refine fG (a:=v) ?_ (fF _);exact(zw1 op T ox oy _ _ g1 g2).bind hv
def Vo{op:UnOp}(ho:o.op=.unOp op T ox)(hx:M_ x ox=tT)
  (H:∀(ph:PH) (ρ:RM) (a:Value) (w:World),g_ ph ρ (X get x) a->∃v,j_ P (Op.unary op a) w v w/\RepD ph d v):gz P o get m [] [] (.c (.d d)):=by
 refine gz.Z_ λm' h1 ph ρ w a hr hg=>?_;have r1:=iV hx (ph:=ph) (ρ:=ρ) (get:=get) (a:=a) λk hk=>hg k (by rw[ho];simp[Op.operands,hk]);let⟨v,hv,rv⟩:=H ph ρ _ w r1;refine⟨v,?_,by simpa only[g_,m_]using rv⟩;unfold execOp;rw[ho];exact hv.bind (fF _)
def j_.convert_int{d:TypeDesc}{k k':IntKind}{j:Int}(hT:P.underlying T=sS d)(hU:P.underlying U=sS (.int k)):
  j_ P (convert T U (.int k' j)) w (.int k (k.wrap j)) w:=by
 unfold convert;refine(fP hT).bind ((fP hU).bind ?_);exact fF _
def Vp{ph:PH}{ρ:RM}{m:Hp}(H:E_ ph ρ m w.heap){B o:Nat}{cs:oQ}(r:RepL ph cs ((hcells ph B).drop o)){j:Nat}{x:D}(e:cs[j]?=sS x):
  ∃v,w.cell? ⟨B,o+j,nN⟩=sS v/\v.one1=tT/\RepD ph x v:=by
 let⟨v,h1,h2,h3⟩:=r.get e;refine⟨v,?_,h2,h3⟩;rw[bE]at h1;unfold hcells at h1;cases hB:ph B with
 |none=>rw[hB]at h1;simp at h1
 | some ob=>
  rw[hB]at h1;cases ob with
  |cells c T fr=>
   rw[cell_of (H.pers B _ hB)];simpa using h1
  |_=>simp at h1
def Ho{l:List α}{n j:Nat}{v:α}(h:(l.take n)[j]?=sS v):l[j]?=sS v:=by
 rw[eB]at h;split at h
 .exact h
 .cases h
def Vq{B o sz:Nat}{vs:oP}(hT:CQ P T=sS (tT,sz))(hl:lN vs=sz)(h:∀j v,vs[j]?=sS v->w.cell? ⟨B,o+j,nN⟩=sS v):
  j_ P (loadVar T ⟨B,o,nN⟩) w (.agg vs.toArray) w:=by
 let⟨d,i,h1,h2,h3,h4⟩:=Vj hT;unfold loadVar;refine(j_.isAgg h1).bind ?_;rw[h3,aC rfl];refine(fe h2).bind ?_;rw[h4,<-hl];exact(fw h).bind (fF _)
def Vr{B o sz:Nat}{v:Value}(hT:CQ P T=sS (oK,sz))(h:w.cell? ⟨B,o,nN⟩=sS v):j_ P (loadVar T ⟨B,o,nN⟩) w v w:=by
 let⟨d,i,h1,h2,h3,h4⟩:=Vj hT;unfold loadVar;refine(j_.isAgg h1).bind ?_;rw[h3];exact j_.load h
def Oz(cs:List α)(off sz:Nat)(h:off+sz<=lN cs):cut cs off sz=(cs.drop off).take sz:=by
 unfold cut;split
 next hh=>let⟨h1,h2⟩:=hh;subst h1;subst h2;simp
 .rfl
def Vs(cs:List α)(off sz:Nat)(h:off+sz<=lN cs):(cut cs off sz).length=sz:=by
 rw[Oz cs off sz h];simp;omega
def Vt{sz:Nat}{cs:oQ}{off:Nat}{K:AV->Prop}(hT:CQ P T=sS (ag,sz))(hK:E8 ag sz cs off K):
  ∃v,K v/\∀{ph:PH} {ρ:RM} {m:Hp} {w:World} (H:E_ ph ρ m w.heap) {B o:Nat} (r:RepL ph cs ((hcells ph B).drop o)),∃vC,j_ P (loadVar T ⟨B,o+off,nN⟩) w vC w/\g_ ph ρ v vC:=by
 unfold E8 at hK;cases ag with
 | true=>
  let⟨h1,h2⟩:=hK;refine⟨_,h2,λ{ph ρ m w} H {B o} r=>?_⟩;have r':RepL ph (cut cs off sz) (((hcells ph B).drop o).drop off):=by
   rw[Oz cs off sz h1];exact(r.drop off).takeDs sz
  have hlen:=Vs cs off sz h1;have hle:=r'.length;refine⟨.agg ((((hcells ph B).drop o).drop off).take sz).toArray,Vq hT (by simp[hlen]at hle⊢;omega) ?_,?_⟩
  .intro j v hj;have _q:=Ho hj;have hjl:j<(cut cs off sz).length:=by
    rw[hlen];rcases aY j sz with h|h
    .exact h
    .rw[aR (by simp;omega)]at hj;cases hj
   let⟨u,e1,e2,e3⟩:=Vp (w:=w) H (B:=B) (o:=o+off) (cs:=cut cs off sz) (by rw[<-bX];exact r') (j:=j) (aA hjl);let⟨u',e1',e2',e3'⟩:=r'.get (aA hjl);rw[_q]at e1';cases e1';rw[e1];have:=e1
   -- the same cell
   unfold hcells at _q;cases hB:ph B with
   |none=>rw[hB]at _q;simp at _q
   | some ob=>
    rw[hB]at _q;cases ob with
    |cells c T' fr=>
     rw[cell_of (H.pers B _ hB)]at this;simp only[bE,Array.getElem?_toList]at _q;rw[show o+(off+j)=o+off+j from by omega]at _q;rw[_q]at this;exact this.symm
    |_=>simp at _q
  .simp only[g_];refine⟨_,rfl,by simp[hlen]at hle⊢;omega,gY.of_D ?_⟩;have:=r'.take;rw[hlen]at this;exact this
 | false=>
  simp only at hK;split at hK
  next c hc=>
   refine⟨_,hK,λ{ph ρ m w} H {B o} r=>?_⟩;let⟨v,e1,e2,e3⟩:=Vp (w:=w) H r hc;exact⟨v,Vr hT e1,by simpa only[g_,m_]using e3⟩
  .exact hK.elim
def L6{sz:Nat}{cs:o7}{off:Nat}{K:AV->Prop}(hT:CQ P T=sS (ag,sz))(hK:Ae ag sz cs off K):
  ∃v,K v/\∀{ph:PH} {ρ:RM} {w:World} {B o:Nat} {vs:oP} {U:TypeId} {fr:Nat × Nat} (hB:w.heap[B]?=sS (.cells vs.toArray U fr)) (r:gY ph ρ cs (vs.drop o)),
   ∃vC,j_ P (loadVar T ⟨B,o+off,nN⟩) w vC w/\g_ ph ρ v vC:=by
 unfold Ae at hK;cases ag with
 | true=>
  let⟨h1,h2⟩:=hK;refine⟨_,h2,λ{ph ρ w B o vs U fr} hB r=>?_⟩;have r':gY ph ρ (cut cs off sz) ((vs.drop o).drop off):=by
   rw[Oz cs off sz h1];exact(r.drop off).takeDs sz
  have hlen:=Vs cs off sz h1;have hle:=r'.length;refine⟨.agg (((vs.drop o).drop off).take sz).toArray,Vq hT (by simp[hlen]at hle⊢;omega) ?_,?_⟩
  .intro j v hj;have _q:=Ho hj;rw[cell_of hB];simp only[bE]at _q;rw[show o+off+j=o+(off+j)from by omega];simpa using _q
  .simp only[g_];refine⟨_,rfl,by simp[hlen]at hle⊢;omega,?_⟩;have:=r'.take;rw[hlen]at this;exact this
 | false=>
  simp only at hK;split at hK
  next c hc=>
   refine⟨_,hK,λ{ph ρ w B o vs U fr} hB r=>?_⟩;let⟨v,e1,e2,e3⟩:=r.get hc;refine⟨v,Vr hT ?_,by simpa only[g_]using e3⟩;rw[cell_of hB];simpa[bE]using e1
  .exact hK.elim
end
end Go.Abs
namespace Go.Abs
variable {T:TypeId}{o:Oper}{x:MX}{ox:Operand}{α:Type}{i:TypeInfo}
variable [jE]
section
variable {P:Program} {get:Nat->AV} {m:Hp} {n:Nat}
def zHA{ag:Bool}{sz:Nat}(ho:o.op=.load T ox)(hT:CQ P T=sS (ag,sz))(hx:M_ x ox=tT){K:AV->oO->Prop}
  (hK:match X get x with
  |.c (.d (.rp cs off))=>E8 ag sz cs off λv=>K v []
  |.c (.ptr b off)=>match m b with
   |.box cs=>Ae ag sz cs off λv=>K v [b]
   |_=>False
  |.c (.ept s b i off)=>match m b with
   |.arr s' es=>s=s'/\(match es[i]? with|some e=>Ae ag sz e off λv=>K v [b]|none=>False)
   |_=>False
  |.c (.d (.sc (.pointer (sS ⟨B,off,nN⟩))))=>match jE.row B with
   |some ds=>Ae ag sz (ds.map .d) off λv=>K v []
   |none=>False
  |_=>False):∃v rd,gz P o get m rd [] v/\K v rd:=by
 have baseS:∀(rd:oO) (v:AV) (H:∀m':Hp,(∀b,b∈rd->m' b=m b)->∀(h:PH) (ρ:RM) (w:World) (p:Value),E_ h ρ m' w.heap->jE.ok h (jK ρ m') w->g_ h ρ (X get x) p->
   ∃B off vC,p=.pointer (sS ⟨B,off,nN⟩)/\j_ P (loadVar T ⟨B,off,nN⟩) w vC w/\g_ h ρ v vC),gz P o get m rd [] v:=by
  intro rd v H;refine gz.of_pureS λm' h1 ph ρ w a hr hS hg=>?_;have r1:=iV hx (ph:=ph) (ρ:=ρ) (get:=get) (a:=a) λk hk=>hg k (by rw[ho];simp[Op.operands,hk]);obtain⟨B,off,vC,e,_E,rv⟩:=H m' h1 ph ρ w _ hr hS r1;refine⟨vC,?_,rv⟩;unfold execOp;rw[ho];refine fG (a:=vC) ?_ (fF _);show j_ P (Instr.loadAt T (a.eval ox)) w vC w;rw[e];exact(fF (⟨B,off,nN⟩:Addr)).bind _E
 have base:∀(rd:oO) (v:AV) (H:∀m':Hp,(∀b,b∈rd->m' b=m b)->∀(h:PH) (ρ:RM) (w:World) (p:Value),E_ h ρ m' w.heap->g_ h ρ (X get x) p->
   ∃B off vC,p=.pointer (sS ⟨B,off,nN⟩)/\j_ P (loadVar T ⟨B,off,nN⟩) w vC w/\g_ h ρ v vC),gz P o get m rd [] v:=
  λrd v H=>baseS rd v λm' h1 h ρ w p hr _ rp=>H m' h1 h ρ w p hr rp
 split at hK
 next cs off ex=>
  obtain⟨v,kv,H⟩:=Vt hT hK;refine⟨v,[],base [] v λm' h1 ph ρ w p hr rp=>?_,kv⟩;rw[ex]at rp;simp only[g_,m_,RepD]at rp;obtain⟨B,o',e,rl⟩:=rp;obtain⟨vC,h2,h3⟩:=H (ρ:=ρ) hr rl;exact⟨B,_,vC,e,h2,h3⟩
 next b off ex=>
  split at hK
  next cs eb=>
   obtain⟨v,kv,H⟩:=L6 hT hK;refine⟨v,[b],base [b] v λm' h1 ph ρ w p hr rp=>?_,kv⟩;rw[ex]at rp;simp only[g_,m_]at rp;obtain⟨q,hq,e⟩:=rp;have ho:=hr.own b q hq;rw[h1 b oC,eb]at ho;obtain⟨vs,U,g1,g2,g3⟩:=ho;obtain⟨vC,h2,h3⟩:=H (o:=0) g1 (by simpa using g3);exact⟨q.1,off,vC,e,by simpa using h2,h3⟩
  .exact hK.elim
 next s b i off ex=>
  split at hK
  next s' es eb=>
   obtain⟨es',hK⟩:=hK;subst es';split at hK
   next e he=>
    obtain⟨v,kv,H⟩:=L6 hT hK;refine⟨v,[b],base [b] v λm' h1 ph ρ w p hr rp=>?_,kv⟩;rw[ex]at rp;simp only[g_,m_]at rp;obtain⟨q,hq,e⟩:=rp;have ho:=hr.own b q hq;rw[h1 b oC,eb]at ho;rcases ho with ho|⟨vs,U,g1,g2,g3,g5,g4⟩
    .rw[ho.2]at he;simp at he
    .have:=g4.get he;obtain⟨vC,h2,h3⟩:=H (o:=i*s) g1 this.2;exact⟨q.1,_,vC,e,h2,h3⟩
   .exact hK.elim
  .exact hK.elim
 next B off ex=>
  split at hK
  next ds eb=>
   obtain⟨v,kv,H⟩:=L6 hT hK;refine⟨v,[],baseS [] v λm' h1 ph ρ w p hr hS rp=>?_,kv⟩;rw[ex]at rp;simp only[g_,m_,RepD]at rp;obtain⟨vs,U,g1,g2,g3⟩:=jE.get hS eb;obtain⟨vC,h2,h3⟩:=H (o:=0) (ρ:=ρ) g1 (by simpa using gY.of_D g3);exact⟨B,off,vC,rp,by simpa using h2,h3⟩
  .exact hK.elim
 .exact hK.elim
def zJt(ho:o.op=.box T ox)(hx:M_ x ox=tT){ds:oQ}(e:cellsD (X get x)=sS ds):gz P o get m [] [] (.c (.d (.rp ds 0))):=by
 refine gz.E? λm' h1 h2 ph ρ w a hr hg=>?_;have r1:=iV hx (ph:=ph) (ρ:=ρ) (get:=get) (a:=a) λk hk=>hg k (by rw[ho];simp[Op.operands,hk]);let⟨vs,e1,e2,e3⟩:=Ov r1 e;let⟨H,S⟩:=hr.pushP (.cells vs.toArray T);refine⟨_,ρ,{w with heap:=w.heap.push (.cells vs.toArray T)},.pointer (sS ⟨w.heap.size,0,nN⟩),?_,S,H,fZ w,?_⟩
 .unfold execOp;rw[ho];refine fG (a:=.pointer (sS ⟨w.heap.size,0,nN⟩)) ?_ (fF _);show j_ P (Instr.box T (a.eval ox)) w _ _;unfold Instr.box newVar newRow;rw[e1];exact((gD _).bind (fF _)).bind (fF _)
 .simp only[g_,m_,RepD];refine⟨w.heap.size,0,rfl,?_⟩;have:hcells (upd ph w.heap.size (sS (.cells vs.toArray T))) w.heap.size=vs:=by simp[hcells,zam]
  rw[this];exact RepL.mono' S.hle e3
def zHB(ho:o.op=.box T ox)(hx:M_ x ox=tT){cs:o7}(e:wo (X get x)=sS cs)(hn:m n=.c?):
  gz P o get m [] [(n,.box cs)] (.c (.ptr n 0)):=by
 refine gz.E? λm' h1 h2 ph ρ w a hr hg=>?_;have r1:=iV hx (ph:=ph) (ρ:=ρ) (get:=get) (a:=a) λk hk=>hg k (by rw[ho];simp[Op.operands,hk]);let⟨vs,e1,e2,e3⟩:=H9 r1 e;have hn':m' n=.c?:=(h2 (n,.box cs) oC).trans hn
 let⟨H,S⟩:=hr.pushO (.cells vs.toArray T) hn' (lN vs) (blk:=.box cs) oC
  ⟨vs,T,H7 _ _,e2,gY.mono (fU ph) (FT ((hr.dom n).1 hn')) _ _ e3⟩
 refine⟨_,_,{w with heap:=w.heap.push (.cells vs.toArray T)},.pointer (sS ⟨w.heap.size,0,nN⟩),?_,S,H,fZ w,?_⟩
 .unfold execOp;rw[ho];refine fG (a:=.pointer (sS ⟨w.heap.size,0,nN⟩)) ?_ (fF _);show j_ P (Instr.box T (a.eval ox)) w _ _;unfold Instr.box newVar newRow;rw[e1];exact((gD _).bind (fF _)).bind (fF _)
 .simp only[g_,m_];exact⟨_,zam _ _ _,rfl⟩
def zFf{z:oQ}(ho:o.op=.alloc T)(hi:P.info? T=sS i)(hz:i.zero.isSome=tT)(hc:zQ z (zeroOf i)=tT)(hn:m n=.c?):
  gz P o get m [] [(n,.box (z.map .d))] (.c (.ptr n 0)):=by
 refine gz.E? λm' h1 h2 ph ρ w a hr hg=>?_;let⟨zv,ez⟩:=bN.1 hz;have e0:zeroOf i=zv.cells.toList:=by simp[zeroOf,ez]
 let⟨c1,c2⟩:=FU hc;have hn':m' n=.c?:=(h2 (n,.box (z.map .d)) oC).trans hn
 let⟨H,S⟩:=hr.pushO (.cells zv.cells T) hn' zv.cells.size (blk:=.box (z.map .d)) oC
  ⟨zv.cells.toList,T,oC,by rw[<-e0];simpa using c1,gY.of_D (by rw[<-e0];exact c2 _)⟩
 refine⟨_,_,{w with heap:=w.heap.push (.cells zv.cells T)},.pointer (sS ⟨w.heap.size,0,nN⟩),?_,S,H,fZ w,?_⟩
 .unfold execOp;rw[ho];refine fG (a:=.pointer (sS ⟨w.heap.size,0,nN⟩)) ?_ (fF _);show j_ P (Instr.alloc T tT (.tuple #[])) w _ _;unfold Instr.alloc newVar newRow;refine(fo hi ez).bind ?_;exact((gD _).bind (fF _)).bind (fF _)
 .simp only[g_,m_];exact⟨_,zam _ _ _,rfl⟩
def Hq:∀(vs cs:List α) (o j:Nat),o+lN vs<=lN cs->(z_ cs o vs)[j]?=if o<=j/\j<o+lN vs then vs[j-o]? else cs[j]?
|[],cs,o,j,h=>by simp only[z_,List.length_nil];rw[aB oM]
| v::vs,cs,o,j,h=>by
 simp only[List.length_cons]at h;simp only[z_,List.length_cons];rw[Hq vs (cs.set o v) (o+1) j (by simp;omega)];by_cases hj:j=o
 .subst hj;rw[aB oM,aC oM];simp[List.getElem?_set];omega
 .by_cases h1:o+1<=j/\j<o+1+lN vs
  .rw[aC h1,aC oM];rw[show j-o=(j-(o+1))+1 from by omega,List.getElem?_cons_succ]
  .rw[aB h1,aB oM,List.getElem?_set_ne (Ne.symm hj)]
def L8(cs vs:List α)(o:Nat)(h:o+lN vs<=lN cs):z_ cs o vs=cs.take o++vs++cs.drop (o+lN vs):=by
 apply dF;intro j;rw[Hq vs cs o j h];by_cases h1:j<o
 .rw[aB oM,dC,aj (by simp;omega),eB,aC h1]
 .by_cases h2:j<o+lN vs
  .rw[aC ⟨oM,h2⟩,dC,ay (by simp;omega),aj (by simp;omega)];congr 1;simp;omega
  .rw[aB oM,ay (by simp;omega),bE];congr 1;simp;omega
def put_eq(cs l:List α)(o:Nat)(h:o+lN l<=lN cs):put cs o l=z_ cs o l:=by
 unfold put;split
 next hh=>
  let⟨h1,h2⟩:=hh;subst h1;rw[L8 cs l 0 h];simp[h2]
 .rfl
def PD(cs l:List α)(o:Nat)(h:o+lN l<=lN cs):(put cs o l).length=lN cs:=by
 rw[put_eq cs l o h,CP]
def gY.z_{ph:PH}{ρ:RM}:∀{l:List AC} {vs:List Value} {cs:List AC} {us:List Value} {o:Nat},gY ph ρ cs us->gY ph ρ l vs->lN vs=lN l->
 gY ph ρ (z_ cs o l) (z_ us o vs)
|[],[],_,_,_,r,_,_=>by simpa[Abs.z_]using r
|[],_::_,_,_,_,_,_,e=>by simp at e
|_::_,[],_,_,_,_,r,_=>by simp[gY]at r
|c::l,v::vs,cs,us,o,r,r',e=>by
 simp only[gY]at r';simp only[Abs.z_];exact gY.z_ (r.set r'.1.1 r'.1.2) r'.2 (uM e)
def zCM{B o:Nat}{us:oP}{U:TypeId}{w:World}{v:Value}{vs:oP}(hT:P.info? T=sS i)(hv:v.cells=vs.toArray)(hl:lN vs=i.size)
  (hB:w.heap[B]?=sS (.cells us.toArray U (0,0))) (hle:o+lN vs<=lN us) (h1:∀x,x∈vs->x.one1=tT) (h0:vs≠[]):
  j_ P (storeVar T ⟨B,o,nN⟩ v) w () (World.cellsAt w B (Abs.z_ us o vs) U):=by
 unfold storeVar;refine(fe hT).bind ?_;rw[hv];simp only[List.size_toArray];rw[aB (by simp[hl])];have:=j_.storeCells (P:=P) o vs 0 us w hB (uM hle) h1 h0;simpa using this
def zFg {o:Oper} {T:TypeId} {i:TypeInfo} {sz:Nat} {x y:MX} {ox oy:Operand} (ho:o.op=.store T ox oy) (hT:P.info? T=some i) (hs:i.size=sz) (h0:0<sz) (hx:M_ x ox=true) (hy:M_ y oy=true)
  {K:oU->Prop} (hK:match X get x,wo (X get y)with
  |.c (.ptr b off),some l=>match m b with
   |.box cs=>l.length=sz/\off+sz<=cs.length/\K [(b,.box (put cs off l))]
   |_=>False
  |.c (.ept s b i off),some l=>match m b with
   |.arr s' es=>s=s'/\l.length=sz/\off+sz<=s/\(match es[i]? with|some e=>K [(b,.arr s (es.set i (put e off l)))]|none=>False)
   |_=>False
  |_,_=>False):∃wr,gz P o get m [] wr (.c (.d .any))/\K wr:=by
 have base:∀(b:Nat) (blk:A_) (hl:blk≠.c?) (H:∀m':Hp,m' b=m b->∀(h:PH) (ρ:RM) (w:World) (p v:Value),E_ h ρ m' w.heap->g_ h ρ (X get x) p->g_ h ρ (X get y) v->
   ∃q off us U vs,ρ b=some q/\Real (m' b) q/\p=.pointer (some ⟨q.1,off,none⟩)/\w.heap[q.1]?=some (.cells us.toArray U (0,0))/\v.cells=vs.toArray/\vs.length=sz/\off+sz<=us.length/\(∀x,x∈vs->x.one1=true)/\
    iw h ρ q blk (w.heap.setIfInBounds q.1 (.cells (Abs.z_ us off vs).toArray U (0,0)))),gz P o get m [] [(b,blk)] (.c (.d .any)):=by
  intro b blk hl H;refine gz.of_skip λm' h1 h2 ph ρ w a hr hg=>?_;have r1:=iV hx (ph:=ph) (ρ:=ρ) (get:=get) (a:=a) λk hk=>hg k (by rw[ho];simp[Op.operands,hk]);have r2:=iV hy (ph:=ph) (ρ:=ρ) (get:=get) (a:=a) λk hk=>hg k (by rw[ho];simp[Op.operands,hk]);obtain⟨q,off,us,U,vs,e1,e2,e3,e4,e5,e6,e7,e8,e9⟩:=H m' (h2 (b,blk) oC) ph ρ w _ _ hr r1 r2;obtain⟨K,S⟩:=hr.set (.cells (Abs.z_ us off vs).toArray U (0,0)) e1 e2 hl e9;refine⟨ph,ρ,World.cellsAt w q.1 (Abs.z_ us off vs) U,?_,S,K,fZ w⟩;unfold execOp;rw[ho];refine fG (a:=()) ?_ (fF _);show j_ P (Instr.storeAt T (a.eval ox) (a.eval oy)) w () _;rw[e3];refine(fF (⟨q.1,off,none⟩:Addr)).bind ?_;exact zCM hT e5 (by rw[e6,hs]) e4 oM e8 (by intro h;rw[h]at e6;simp at e6;omega)
 split at hK
 .rename_i b off l ex ey;split at hK
  .rename_i cs eb;obtain⟨k1,k2,kk⟩:=hK;refine⟨_,base b (.box (put cs off l)) oC λm' h1 ph ρ w p v hr rp rv=>?_,kk⟩;rw[ex]at rp;simp only[g_,m_]at rp;obtain⟨q,hq,e⟩:=rp;obtain⟨vs,c1,c2,c3⟩:=H9 rv ey;have _Q:=hr.own b q hq;rw[h1,eb]at _Q;have _D:Real (m' b) q:=by rw[h1,eb];trivial
   have _k:=hr.J? hq _D;obtain⟨us,U,g1,g2,g3⟩:=_Q;refine⟨q,off,us,U,vs,hq,_D,e,g1,c1,oM,oM,gY.one c3 c2,_,U,JF _ _ _k,?_,?_⟩
   .rw[CP,PD _ _ _ oM];exact g2
   .rw[put_eq _ _ _ oM];exact gY.z_ g3 c3 c2
  .exact hK.elim
 .rename_i s b i off l ex ey;split at hK
  .rename_i s' es eb;obtain⟨k0,k1,k2,hK⟩:=hK;subst k0;split at hK
   .rename_i e he;refine⟨_,base b (.arr s (es.set i (put e off l))) oC λm' h1 ph ρ w p v hr rp rv=>?_,hK⟩;rw[ex]at rp;simp only[g_,m_]at rp;obtain⟨q,hq,e'⟩:=rp;obtain⟨vs,c1,c2,c3⟩:=H9 rv ey;have _Q:=hr.own b q hq;rw[h1,eb]at _Q;rcases _Q with _Q|⟨us,U,g1,g2,g3,g5,g4⟩
    .rw[_Q.2]at he;simp at he
    have hil:i<es.length:=by
     rcases aY i es.length with h|h
     .exact h
     .rw[aR h]at he;cases he
    have _D:Real (m' b) q:=by rw[h1,eb];show 0<q.2;omega
    have _k:=hr.J? hq _D;have hge:=g4.get he;have htot:(i+1)*s<=q.2*s:=cZ s oM;have e1:(i+1)*s=i*s+s:=by rw[bF,cu]
    refine⟨q,i*s+off,us,U,vs,hq,_D,e',g1,c1,oM,oM,gY.one c3 c2,.inr ⟨_,U,JF _ _ _k,?_,?_,?_,?_⟩⟩
    .rw[CP];exact g2
    .simpa using g3
    .simpa using g5
    ·-- the row of elements with one turned
     have key:∀(es:oh) (us:oP) (i:Nat) (e:o7),gp ph ρ s es us->es[i]?=some e->gp ph ρ s (es.set i (put e off l)) (Abs.z_ us (i*s+off) vs):=by
      intro es
      induction es with
      |nil=>intro us i e _ h;simp at h
      | cons f es ih=>
       intro us i e r h;simp only[gp]at r;cases i with
       | zero=>
        simp at h;subst h;simp only[List.set_cons_zero,gp];have hle:=r.2.1.length;have hpe:off+l.length<=f.length:=oM;refine⟨by rw[PD _ _ _ hpe];exact r.1,?_,?_⟩
        .rw[put_eq _ _ _ hpe];have:=gY.z_ (o:=off) r.2.1 c3 c2;simpa using this
        .have:(Abs.z_ us (0*s+off) vs).drop s=us.drop s:=by
          apply dF;intro j;rw[bE,bE,Hq _ _ _ _ oM,aB oM]
         rw[this];exact r.2.2
       | succ i=>
        simp only[List.getElem?_cons_succ]at h;simp only[List.set_cons_succ,gp];have hle:=r.2.1.length;have htot:=r.2.2.total;simp only[List.length_drop]at htot;have hil:i<es.length:=by
         rcases aY i es.length with h'|h'
         .exact h'
         .rw[aR h']at h;cases h
        have hm:(i+1)*s<=es.length*s:=cZ s oM;have e1:(i+1)*s=i*s+s:=by rw[bF,cu]
        have hin:(i+1)*s+off+vs.length<=us.length:=oM;refine⟨r.1,?_,?_⟩
        .have h2:=r.2.1.take;have:(Abs.z_ us ((i+1)*s+off) vs).take f.length=us.take f.length:=by
          apply dF;intro j;rw[eB,eB];by_cases hj:j<f.length
          .rw[aC hj,aC hj,Hq _ _ _ _ hin,aB oM]
          .rw[aB hj,aB hj]
         rw[<-this]at h2;have h3:=h2.more ((Abs.z_ us ((i+1)*s+off) vs).drop f.length);rwa[dA]at h3
        .have:(Abs.z_ us ((i+1)*s+off) vs).drop s=Abs.z_ (us.drop s) (i*s+off) vs:=by
          apply dF;intro j;rw[bE,Hq _ _ _ _ hin,Hq _ _ _ _ (by simp;omega),bE];by_cases hj:i*s+off<=j/\j<i*s+off+vs.length
          .rw[aC oM,aC hj];congr 1;omega
          .rw[aB oM,aB hj]
         rw[this];exact ih _ _ _ r.2.2 h
     exact key es us i e g4 he
   .exact hK.elim
  .exact hK.elim
 .exact hK.elim
end
end Go.Abs
namespace Go.Abs
variable {α β:Type}{w:World}
variable [jE]
section
variable {P:Program} {get:Nat->AV} {m:Hp} {n:Nat}
def PE:∀(vs us:List Value) (off k:Nat),off+k+lN vs<=lN us->
 (vs.toArray.zipIdx k).foldl (λcs (x:Value × Nat)=>cs.setIfInBounds (off+x.2) x.1) us.toArray=(Abs.z_ us (off+k) vs).toArray
|[],us,off,k,h=>by rw[<-Array.foldl_toList];simp[Abs.z_,Array.toList_zipIdx]
|v::vs,us,off,k,h=>by
 simp only[List.length_cons]at h;have:=PE vs (us.set (off+k) v) off (k+1) (by simp;omega);simp only[Abs.z_];rw[show off+k+1=off+(k+1)from by omega,<-this];rw[<-Array.foldl_toList,<-Array.foldl_toList];simp[Array.toList_zipIdx,List.zipIdx_cons]
def L9{ph:PH}{ρ:RM}{a:Act}{pl pl':Nat->Option (Nat × Nat)}(hpl:∀i x,pl i=sS x->pl' i=sS x):∀{ps:List (Nat × Nat × MX)} {os:List (Nat × Operand)} {cs cs':List AC} {us:List Value},
 FX P pl ps os=tT->(∀k,Operand.tmp k∈os.map (·.2)->g_ ph ρ (get k) (a.tmps.getD k undef))->DT get cs ps=sS cs'->gY ph ρ cs us->lN us=lN cs->
 ∃_F,Instr.fill pl' us.toArray (os.map λx=>(x.1,a.eval x.2))=sS _F.toArray/\lN _F=lN cs'/\gY ph ρ cs' _F
|[],[],cs,cs',us,h,hg,hf,r,hl=>by
 simp only[DT]at hf;cases hf;exact⟨us,rfl,hl,r⟩
|[],_::_,_,_,_,h,_,_,_,_=>by simp[FX]at h
|(off,sz,x)::ps,[],_,_,_,h,_,_,_,_=>by simp[FX]at h
| (off,sz,x)::ps,(i,o)::os,cs,cs',us,h,hg,hf,r,hl=>by
 simp only[FX,aG,ae]at h;let⟨⟨h1,h2⟩,h3⟩:=h;simp only[DT]at hf;split at hf
 next l hc=>
  split at hf
  next hh=>
   let⟨g1,g2⟩:=hh;have rv:=iV h2 (ph:=ph) (ρ:=ρ) (get:=get) (a:=a) λk hk=>hg k (by simp[hk]);let⟨vs,c1,c2,c3⟩:=H9 rv hc;have hle:off+lN vs<=lN us:=oM
   let⟨_F,e1,e2,e3⟩:=L9 hpl (us:=Abs.z_ us off vs) h3 (λk hk=>hg k (by simp at hk⊢;exact .inr hk)) hf
    (by rw[put_eq _ _ _ oM];exact gY.z_ r c3 c2) (by rw[CP,PD _ _ _ oM,hl])
   refine⟨_F,?_,e2,e3⟩;simp only[List.map_cons,Instr.fill,hpl _ _ h1];rw[c1];simp only[List.size_toArray];rw[aB (by simp;omega)];have:=PE vs us off 0 oM;simp only[Nat.add_zero]at this;rw[this];exact e1
  .cases hf
 .cases hf
def j_.mapM{f:α->Sem β}{g:α->β}:∀(xs:List α),(∀x,x∈xs->j_ P (f x) w (g x) w)->j_ P (xs.mapM f) w (xs.map g) w
|[],_=>by simp only[List.mapM_nil];exact fF _
|x::xs,h=>by
 rw[List.mapM_cons];exact(h x oC).bind ((j_.mapM xs λy hy=>h y (by simp[hy])).bind (fF _))
def j_.mapMA{f:α->Sem β}{g:α->β}(xs:Array α)(h:∀x,x∈xs.toList->j_ P (f x) w (g x) w):j_ P (xs.mapM f) w (xs.map g) w:=by
 rw[dK];have:=(j_.mapM xs.toList h).map (f:=List.toArray);have e:(xs.toList.map g).toArray=xs.map g:=by apply dV;simp
 rw[e]at this;exact this
def zDw{o:Oper} {T:TypeId} {os:Array (Nat × Operand)} {z:oQ} {ps:sj} (ho:o.op=.build T os) (hc:gu P (.build z ps) (.build T os)=tT) {cs:o7}
  (e:DT get (z.map .d) ps=sS cs):gz P o get m [] [] (.ag cs):=by
 refine gz.Z_ λm' h1 ph ρ w a hr hg=>?_;have hg':∀k,Operand.tmp k∈os.toList.map (·.2)->g_ ph ρ (get k) (a.tmps.getD k undef):=λk hk=>hg k (by rw[ho];simpa[Op.operands]using hk);simp only[gu]at hc;split at hc
 next i fs hi hu=>
  simp only[aG]at hc;let⟨⟨⟨h2,h3⟩,h4⟩,h5⟩:=hc;let⟨zv,ez⟩:=bN.1 h2;have e0:zeroOf i=zv.cells.toList:=by simp[zeroOf,ez]
  rw[e0]at h3;let⟨c1,c2⟩:=FU h3;let⟨_F,f1,f2,f3⟩:=L9 (P:=P) (pl':=FZ P fs) (λ_ _ h=>h) h5 hg' e (us:=zv.cells.toList) (gY.of_D (c2 ph)) (uM c1);refine⟨.agg _F.toArray,?_,by simp only[g_];exact⟨_F,rfl,f2,f3⟩⟩;unfold execOp;rw[ho];refine fG (a:=.agg _F.toArray) ?_ (fF _);show j_ P (Instr.build T (os.map λx=>(x.1,a.eval x.2))) w _ w;unfold Instr.build;refine(fo hi ez).bind ((fP hu).bind ?_);have hpl:j_ P (fs.mapM λf=>do pure (f.offset,<-sizeOf f.type)) w (fs.map λ(f:Field)=>(f.offset,((P.info? f.type).map (·.size)).getD 0)) w:=by
   refine j_.mapMA fs λf hf=>?_;have:=ai.1 h4 f hf;let⟨j,hj⟩:=bN.1 this;rw[hj];exact(fe hj).bind (fF _)
  apply hpl.bind;have hpl':(λx:Nat=>(fs.map λ(f:Field)=>(f.offset,((P.info? f.type).map (·.size)).getD 0))[x]?)=λx:Nat=>(fs[x]?).map λ(f:Field)=>(f.offset,((P.info? f.type).map (·.size)).getD 0):=by
   funext x;simp
  let⟨us2,f1',f2',f3'⟩:=L9 (P:=P) (pl':=λx:Nat=>(fs.map λ(f:Field)=>(f.offset,((P.info? f.type).map (·.size)).getD 0))[x]?) (pl:=FZ P fs)
   (λj x hx=>by
    rw[congrFun hpl' j];unfold FZ at hx;split at hx
    next f hf=>
     simp only[aP]at hx;let⟨t,ht,hx⟩:=hx;simp[hf,ht,hx]
    .cases hx) h5 hg' e (us:=zv.cells.toList) (gY.of_D (c2 ph)) (uM c1)
  have e3:us2=_F:=by
   have key:∀(l:List (Nat × Value)) (c c1 c2:Array Value),Instr.fill (FZ P fs) c l=sS c1->Instr.fill (λx:Nat=>(fs.map λ(f:Field)=>(f.offset,((P.info? f.type).map (·.size)).getD 0))[x]?) c l=sS c2->c1=c2:=by
    intro l
    induction l with
    |nil=>intro c c1 c2 h h';simp only[Instr.fill]at h h';cases h;cases h';rfl
    | cons y l ih=>
     let⟨j,v⟩:=y;intro c c1 c2 h h';simp only[Instr.fill]at h h';cases hs:FZ P fs j with
     |none=>rw[hs]at h;cases h
     | some x=>
      have:(fs.map λ(f:Field)=>(f.offset,((P.info? f.type).map (·.size)).getD 0))[j]?=sS x:=by
       rw[congrFun hpl' j];unfold FZ at hs;split at hs
       next f hf=>
        simp only[aP]at hs;let⟨t,ht,hx⟩:=hs;simp[hf,ht,hx]
       .cases hs
      rw[hs]at h;rw[this]at h';simp only at h h';split at h
      .cases h
      next hh=>
       rw[aB hh]at h';exact ih _ _ _ h h'
   have:=key _ _ _ _ f1 f1';simpa using this.symm
  rw[e3]at f1';rw[show(os.map λx=>(x.1,a.eval x.2)).toList=os.toList.map λx=>(x.1,a.eval x.2)from by simp];rw[show zv.cells=zv.cells.toList.toArray from by simp,f1'];exact fF _
 next i n' e' hi hu=>
  split at hc
  next j hj=>
   simp only[aG]at hc;let⟨⟨h2,h3⟩,h5⟩:=hc;let⟨zv,ez⟩:=bN.1 h2;have e0:zeroOf i=zv.cells.toList:=by simp[zeroOf,ez]
   rw[e0]at h3;let⟨c1,c2⟩:=FU h3;let⟨_F,f1,f2,f3⟩:=L9 (P:=P) (pl':=λk=>sS (k*j.size,j.size)) (λ_ _ h=>h) h5 hg' e (us:=zv.cells.toList) (gY.of_D (c2 ph)) (uM c1);refine⟨.agg _F.toArray,?_,by simp only[g_];exact⟨_F,rfl,f2,f3⟩⟩;unfold execOp;rw[ho];refine fG (a:=.agg _F.toArray) ?_ (fF _);show j_ P (Instr.build T (os.map λx=>(x.1,a.eval x.2))) w _ w;unfold Instr.build;refine(fo hi ez).bind ((fP hu).bind ((fe hj).bind ?_));rw[show(os.map λx=>(x.1,a.eval x.2)).toList=os.toList.map λx=>(x.1,a.eval x.2)from by simp];rw[show zv.cells=zv.cells.toList.toArray from by simp,f1];exact fF _
  .cases hc
 .cases hc
end
end Go.Abs
namespace Go.Abs
variable {T:TypeId}{o:Oper}{x:MX}{ox oi:Operand}{i:TypeInfo}{a:Act}{xs:List MX}
variable [jE]
section
variable {P:Program} {get:Nat->AV} {m:Hp} {n:Nat}
def PG{ph:PH}{ρ:RM}{s:Nat}:∀{xs:List MX} {os:List (Nat × Operand)} {es:List (List AC)} {k:Nat} {us:List Value},
 FY xs k os=tT->(∀j,Operand.tmp j∈os.map (·.2)->g_ ph ρ (get j) (a.tmps.getD j undef))->tq get s xs=sS es->lN us=(k+lN xs)*s->
 ∃vs:List Value,Instr.fill (λi=>sS (i*s,s)) us.toArray (os.map λx=>(x.1,a.eval x.2))=sS (us.take (k*s)++vs).toArray/\lN vs=lN xs*s/\gp ph ρ s es vs/\lN es=lN xs
|[],[],es,k,us,h,hg,he,hl=>by
 simp only[tq]at he;cases he;refine⟨[],?_,oC,by simp[gp],rfl⟩;simp only[List.map_nil,Instr.fill];rw[aD (by simp at hl;omega)];simp
|[],_::_,_,_,_,h,_,_,_=>by simp[FY]at h
|_::_,[],_,_,_,h,_,_,_=>by simp[FY]at h
| x ::xs,(i,o)::os,es,k,us,h,hg,he,hl=>by
 simp only[FY,aG,ae]at h;let⟨⟨h1,h2⟩,h3⟩:=h;subst h1;simp only[tq]at he;split at he
 next l r hc hr=>
  split at he
  next hs=>
   cases he;have rv:=iV h2 (ph:=ph) (ρ:=ρ) (get:=get) (a:=a) λk hk=>hg k (by simp[hk]);let⟨ws,c1,c2,c3⟩:=H9 rv hc;simp only[List.length_cons]at hl;have e1:(i+(lN xs+1))*s=i*s+s+lN xs*s:=by rw[bF,bF,cu];omega
   have hle:i*s+lN ws<=lN us:=oM;let⟨vs,f1,f2,f3,f4⟩:=PG (us:=Abs.z_ us (i*s) ws) h3 (λk hk=>hg k (by simp at hk⊢;exact .inr hk)) hr (by
    rw[CP,hl];congr 1;omega)
   refine⟨ws++vs,?_,?_,?_,?_⟩
   .simp only[List.map_cons,Instr.fill];rw[c1];simp only[List.size_toArray];rw[aB (by simp;omega)];have:=PE ws us (i*s) 0 oM;simp only[Nat.add_zero]at this;rw[this,f1];have e2:(i+1)*s=i*s+s:=by rw[bF,cu]
    rw[e2,L8 _ _ _ hle];congr 2;rw[<-dC];congr 1;rw[List.take_append_of_le_length (by simp;omega)];rw[aD (by simp;omega)]
   .simp only[aV,List.length_cons];rw[f2,bF,cu];omega
   .simp only[gp];refine⟨hs,c3.more vs,?_⟩;rw[bV oM,List.drop_of_length_le oM];simpa using f3
   .simp[f4]
  .cases he
 .cases he
def Vu{s:Nat}:∀{xs:List MX} {es:List (List D)},wu get s xs=sS es->tq get s xs=sS (es.map (·.map .d))
|[],es,h=>by simp only[wu]at h;cases h;rfl
| x ::xs,es,h=>by
 simp only[wu]at h;split at h
 next l r h1 h2=>
  split at h
  next hs=>
   cases h;simp only[tq];unfold cellsD at h1;cases hc:wo (X get x)with
   |none=>rw[hc]at h1;cases h1
   |some cs=>
    rw[hc]at h1;have:=FV h1;subst this;rw[Vu h2];simp[hs]
  .cases h
 .cases h
def Vv{len:Nat}{os:Array (Nat × Operand)}{e:TypeId}{s:Nat}{w:World}(hu:P.underlying T=sS (.slice e))(hi:P.info? e=sS i)(hs:i.size=s)
  (hz:i.zero.isSome=tT) (hlen:len*s<=16777216):
  ∃us:oP,lN us=len*s/\∀vs:oP,Instr.fill (λi=>sS (i*s,s)) us.toArray (os.toList.map λx=>(x.1,a.eval x.2))=sS vs.toArray->
   j_ P (Instr.buildSlice T len (os.map λx=>(x.1,a.eval x.2))) w (.slice (sS ⟨w.heap.size,0,nN⟩) len len) {w with heap:=w.heap.push (.cells vs.toArray e)}:=by
 let⟨zv,ez⟩:=bN.1 hz
 have last:∀(msg:String) (zs:Array Value) (vs:oP),Instr.fill (λi=>sS (i*s,s)) ((Array.range (len*s)).map (zs[· %zs.size]!)) (os.toList.map λx=>(x.1,a.eval x.2))=sS vs.toArray->
   j_ P (match Instr.fill (λi=>sS (i*s,s)) ((Array.range (len*s)).map (zs[· %zs.size]!)) ((os.map λx=>(x.1,a.eval x.2)).toList)with
    |some cells=>do
     let r<-newRow e cells
     Pure.pure (Value.slice (sS r) len len)
    |_=>stuck msg) w (.slice (sS ⟨w.heap.size,0,nN⟩) len len) {w with heap:=w.heap.push (.cells vs.toArray e)}:=by
  intro msg zs vs hf;rw[show(os.map λx=>(x.1,a.eval x.2)).toList=os.toList.map λx=>(x.1,a.eval x.2)from by simp];rw[hf];unfold newRow;exact((gD _).bind (fF _)).bind (fF _)
 by_cases h0:len*s=0
 .refine⟨((Array.range (len*s)).map (λx=>(#[]:Array Value)[x%(#[]:Array Value).size]!)).toList,oC,λvs hf=>?_⟩;unfold Instr.buildSlice;refine(fP hu).bind ((fe hi).bind ?_);rw[hs];rw[aB oM];dsimp only;rw[aC h0];refine(fF _).bind ?_;rw[bG]at hf;exact last _ #[] vs hf
 .refine⟨((Array.range (len*s)).map (λx=>zv.cells[x%zv.cells.size]!)).toList,oC,λvs hf=>?_⟩;unfold Instr.buildSlice;refine(fP hu).bind ((fe hi).bind ?_);rw[hs];rw[aB oM];dsimp only;rw[aB h0];refine(fo hi ez).bind ((fF _).bind ?_);rw[bG]at hf;exact last _ zv.cells vs hf
def Ht(h:BI P T=sS i):∃e,P.underlying T=sS (.slice e)/\P.info? e=sS i:=by
 unfold BI at h;split at h
 next e he=>exact⟨e,he,h⟩
 .cases h
def zzT{len:Nat}{os:Array (Nat × Operand)}{s:Nat}{xs:su}(ho:o.op=.buildSlice T len os)(hc:gu P (.buildSl s xs) (.buildSlice T len os)=tT){es:o5}
  (e:wu get s xs=sS es):gz P o get m [] [] (.c (.d (.sl tT s es))):=by
 refine gz.E? λm' h1 h2 ph ρ w a hr hg=>?_;have hg':∀k,Operand.tmp k∈os.toList.map (·.2)->g_ ph ρ (get k) (a.tmps.getD k undef):=λk hk=>hg k (by rw[ho];simpa[Op.operands]using hk);simp only[gu]at hc;split at hc
 next i hi=>
  simp only[aG,ae,aI]at hc;let⟨⟨⟨⟨⟨⟨c1,c2⟩,c3⟩,c4⟩,c5⟩,c7⟩,c6⟩:=hc;let⟨et,hu,hi'⟩:=Ht hi;let⟨us,hus,_E⟩:=Vv (os:=os) (w:=w) (a:=a) hu hi' c1 c2 c5;let⟨vs,f1,f2,f3,f4⟩:=PG (us:=us) c6 hg' (Vu e) (by rw[hus,<-c4];simp);simp only[bW,List.take_zero,List.nil_append,aa]at f1 f4;let⟨H,S⟩:=hr.pushP (.cells vs.toArray et);refine⟨_,ρ,{w with heap:=w.heap.push (.cells vs.toArray et)},.slice (sS ⟨w.heap.size,0,nN⟩) len len,?_,S,H,fZ w,?_⟩
  .unfold execOp;rw[ho];refine fG ?_ (fF _);exact _E vs f1
  .simp only[g_,m_,RepD];have hlen:lN es=len:=oM;refine⟨sS ⟨w.heap.size,0,nN⟩,len,by rw[hlen],oM,λ_=>hlen.symm,?_,λh=>(by cases h),λp hp _=>(by cases hp;rfl),?_⟩
   .unfold zaf;omega
   .have e4:cellsAt (upd ph w.heap.size (sS (.cells vs.toArray et))) (sS ⟨w.heap.size,0,nN⟩)=vs:=by simp[cellsAt,hcells,zam]
    rw[e4];have:=gp.mono S.hle (fV ρ) _ _ f3;exact gp.to_E this
 .cases hc
def zyR{len:Nat}{os:Array (Nat × Operand)}{s:Nat}{xs:su}(ho:o.op=.buildSlice T len os)(hc:gu P (.buildSlM s xs) (.buildSlice T len os)=tT){es:oh}
  (e:tq get s xs=sS es) (hn:m n=.c?):gz P o get m [] [(n,.arr s es)] (.c (.x_ s n 0 (lN xs))):=by
 refine gz.E? λm' h1 h2 ph ρ w a hr hg=>?_;have hg':∀k,Operand.tmp k∈os.toList.map (·.2)->g_ ph ρ (get k) (a.tmps.getD k undef):=λk hk=>hg k (by rw[ho];simpa[Op.operands]using hk);have hn':m' n=.c?:=(h2 (n,.arr s es) oC).trans hn;simp only[gu]at hc;split at hc
 next i hi=>
  simp only[aG,ae,aI]at hc;let⟨⟨⟨⟨⟨⟨c1,c2⟩,c3⟩,c4⟩,c5⟩,c7⟩,c6⟩:=hc;let⟨et,hu,hi'⟩:=Ht hi;let⟨us,hus,_E⟩:=Vv (os:=os) (w:=w) (a:=a) hu hi' c1 c2 c5;let⟨vs,f1,f2,f3,f4⟩:=PG (us:=us) c6 hg' e (by rw[hus,<-c4];simp);simp only[bW,List.take_zero,List.nil_append]at f1 f4
  let⟨H,S⟩:=hr.pushO (.cells vs.toArray et) hn' len (blk:=.arr s es) oC
   (.inr ⟨vs,et,H7 _ _,by rw[f2,c4],oM,by unfold zaf;omega,gp.mono (fU ph) (FT ((hr.dom n).1 hn')) _ _ f3⟩)
  refine⟨_,_,{w with heap:=w.heap.push (.cells vs.toArray et)},.slice (sS ⟨w.heap.size,0,nN⟩) len len,?_,S,H,fZ w,?_⟩
  .unfold execOp;rw[ho];refine fG ?_ (fF _);exact _E vs f1
  .simp only[g_,m_];refine⟨_,sS ⟨w.heap.size,0,nN⟩,zam _ _ _,by rw[c4];rfl,by rw[c4];simp,λ_=>by simp,λq hq _=>by cases hq;rfl⟩
 .cases hc
def zFr{f off:Nat}(ho:o.op=.fieldAddr T ox f)(hc:gu P (.faddr off x) (.fieldAddr T ox f)=tT){K:AV->Prop}
  (hK:match X get x with
  |.c (.ptr b o)=>K (.c (.ptr b (o+off)))
  |.c (.ept s b i o)=>K (.c (.ept s b i (o+off)))
  |.c (.d (.rp cs o))=>K (.c (.d (.rp cs (o+off))))
  |.c (.d (.sc (.pointer (sS ⟨B,o,nN⟩))))=>K (.c (.d (.sc (.pointer (sS ⟨B,o+off,nN⟩)))))
  |_=>False):∃v,gz P o get m [] [] v/\K v:=by
 simp only[gu,aG]at hc;let⟨c0,hx⟩:=hc;split at c0
 next off' U i hf=>
  simp only[aG,ae,bne_iff_ne]at c0;let⟨c1,c2⟩:=c0;subst c1;unfold Vl at hf;split at hf
  next fs hu=>
   split at hf
   next fd hfd=>
    simp only[aP]at hf;let⟨t,ht,hf⟩:=hf;injection hf with h1 h2
    injection h2 with h2 h3
    subst h1 h3;have base:∀(v:AV) (H:∀(h:PH) (ρ:RM) (p:Value),g_ h ρ (X get x) p->∃B q,p=.pointer (sS ⟨B,q,nN⟩)/\g_ h ρ v (.pointer (sS ⟨B,q+fd.offset,nN⟩))),gz P o get m [] [] v:=by
     intro v H;refine gz.Z_ λm' h1 ph ρ w a hr hg=>?_;have r1:=iV hx (ph:=ph) (ρ:=ρ) (get:=get) (a:=a) λk hk=>hg k (by rw[ho];simp[Op.operands,hk]);let⟨B,q,e,rv⟩:=H ph ρ _ r1;refine⟨_,?_,rv⟩;unfold execOp;rw[ho];refine fG ?_ (fF _);show j_ P (Instr.fieldAt T (a.eval ox) f) w _ w;rw[e];unfold Instr.fieldAt;refine(fP hu).bind ?_;simp only[hfd];refine(fF (⟨B,q,nN⟩:Addr)).bind ?_;unfold fieldPlace;refine fG (a:=(⟨B,q+fd.offset,nN⟩:Addr)) ?_ (fF _);refine(fe ht).bind ?_;rw[aB c2,Z?];exact fF _
    split at hK
    next b q ex=>
     refine⟨_,base _ λh ρ p rp=>?_,hK⟩;rw[ex]at rp;simp only[g_,m_]at rp⊢;let⟨y,h1,h2⟩:=rp;exact⟨y.1,q,h2,y,h1,rfl⟩
    next s b i' q ex=>
     refine⟨_,base _ λh ρ p rp=>?_,hK⟩;rw[ex]at rp;simp only[g_,m_]at rp⊢;let⟨y,h1,h2⟩:=rp;exact⟨y.1,_,h2,y,h1,by rw[Nat.add_assoc]⟩
    next cs q ex=>
     refine⟨_,base _ λh ρ p rp=>?_,hK⟩;rw[ex]at rp;simp only[g_,m_,RepD]at rp⊢;let⟨B,y,h1,h2⟩:=rp;exact⟨B,_,h1,B,y,by rw[Nat.add_assoc],h2⟩
    next B q ex=>
     refine⟨_,base _ λh ρ p rp=>?_,hK⟩;rw[ex]at rp;simp only[g_,m_,RepD]at rp⊢;exact⟨B,q,rp,rfl⟩
    .exact hK.elim
   .cases hf
  .cases hf
 .cases c0
def zKG{n:Nat}(h:Ow P T=sS (n,i)):∃e,P.underlying T=sS (.array n e)/\P.info? e=sS i:=by
 unfold Ow at h;split at h
 next n' e he=>
  simp only[aP]at h;let⟨t,ht,h⟩:=h;cases h;exact⟨e,he,ht⟩
 .cases h
def zC1{s:Nat}{i:MX}(ho:o.op=.indexAddr T ox oi)(hc:gu P (.iaddrS s x i) (.indexAddr T ox oi)=tT){K:AV->Prop}
  (hK:match X get x,X get i with
  |.c (.d (.sl _ s' es)),.c (.d (.int _ j))=>s=s'/\0<=j/\(match es[j.toNat]? with|some e=>K (.c (.d (.rp e 0)))|none=>False)
  |.c (.x_ s' b off len),.c (.d (.int _ j))=>s=s'/\0<=j/\j<len/\K (.c (.ept s b (off+j.toNat) 0))
  |.c (.d (.sc (.slice (sS ⟨B,q,nN⟩) len _))),.c (.d (.int _ j))=>0<=j/\j<len/\K (.c (.d (.sc (.pointer (sS ⟨B,q+j.toNat*s,nN⟩)))))
  |_,_=>False):∃v,gz P o get m [] [] v/\K v:=by
 simp only[gu,aG]at hc;obtain⟨⟨c0,hx⟩,hi⟩:=hc;split at c0
 next e he=>
  simp only[ae]at c0;obtain⟨et,hu,hei⟩:=Ht he
  have base:∀(v:AV) (j:Int) (k:IntKind) (ei:X get i=.c (.d (.int k j))) (hj:0<=j)
    (H:∀(h:PH) (ρ:RM) (p:Value),g_ h ρ (X get x) p->∃B q len cap,p=.slice (sS ⟨B,q,nN⟩) len cap/\j<(len:Int)/\g_ h ρ v (.pointer (sS ⟨B,q+j.toNat*s,nN⟩))),gz P o get m [] [] v:=by
   intro v j k ei hj H;refine gz.Z_ λm' h1 ph ρ w a hr hg=>?_;have r1:=iV hx (ph:=ph) (ρ:=ρ) (get:=get) (a:=a) λk hk=>hg k (by rw[ho];simp[Op.operands,hk]);have r2:=iV hi (ph:=ph) (ρ:=ρ) (get:=get) (a:=a) λk hk=>hg k (by rw[ho];simp[Op.operands,hk]);rw[ei]at r2;simp only[g_,m_,RepD]at r2;obtain⟨B,q,len,cap,e1,e2,rv⟩:=H ph ρ _ r1;refine⟨_,?_,rv⟩;unfold execOp;rw[ho];refine fG ?_ (fF _);show j_ P (Instr.indexAt T (a.eval ox) (a.eval oi)) w _ w;rw[e1,r2.1];unfold Instr.indexAt;refine(fF (k,j)).bind ((fP hu).bind ?_);refine(fF (sS (⟨B,q,nN⟩:Addr),len,et)).bind ?_;refine(fP hu).bind ?_;simp only;rw[aC ⟨hj,e2⟩];refine(fe hei).bind ?_;rw[Z?,c0];exact fF _
  split at hK
  next fl s' es k j ex ei=>
   obtain⟨k1,k2,hK⟩:=hK;subst k1;split at hK
   next e0 he0=>
    refine⟨_,base _ j k ei k2 λh ρ p rp=>?_,hK⟩;rw[ex]at rp;simp only[g_,m_,RepD]at rp⊢;obtain⟨a,cap,r1,r2,r3,r4,r5,r6,r7⟩:=rp;have hjl:j.toNat<lN es:=by
     rcases aY j.toNat (lN es) with h|h
     .exact h
     .rw[aR h]at he0;cases he0
    cases a with
    |none=>have:=(r5 rfl).1;subst this;simp at hjl
    |some q=>
     obtain⟨B,off,spot⟩:=q;have:=r6 _ rfl oM;simp only at this;subst this;have hg:=r7.get he0;refine⟨B,off,lN es,cap,r1,oM,B,off+j.toNat*s,oC,?_⟩;simp only[cellsAt]at hg;rw[bX]at hg;exact hg.2
   .exact hK.elim
  next s' b off len k j ex ei=>
   obtain⟨k1,k2,k3,hK⟩:=hK;subst k1;refine⟨_,base _ j k ei k2 λh ρ p rp=>?_,hK⟩;rw[ex]at rp;simp only[g_,m_]at rp⊢;obtain⟨p',a,r1,r2,r3,r4,_⟩:=rp;have ha:=r4 oM;subst ha;refine⟨p'.1,off*s,len,p'.2-off,r2,k3,p',r1,?_⟩;rw[bF,Nat.add_zero]
  next B q len cap k j ex ei=>
   obtain⟨k2,k3,hK⟩:=hK;refine⟨_,base _ j k ei k2 λh ρ p rp=>?_,hK⟩;rw[ex]at rp;simp only[g_,m_,RepD]at rp⊢;exact⟨B,q,len,cap,rp,k3,rfl⟩
  .exact hK.elim
 .cases c0
def zC2{len s:Nat}{i:MX}(ho:o.op=.indexAddr T ox oi)(hc:gu P (.iaddrA len s x i) (.indexAddr T ox oi)=tT){K:AV->Prop}
  (hK:match X get x,X get i with
  |.c (.ptr b o),.c (.d (.int _ j))=>0<=j/\j<len/\K (.c (.ptr b (o+j.toNat*s)))
  |.c (.ept s' b i' o),.c (.d (.int _ j))=>0<=j/\j<len/\K (.c (.ept s' b i' (o+j.toNat*s)))
  |.c (.d (.rp cs o)),.c (.d (.int _ j))=>0<=j/\j<len/\K (.c (.d (.rp cs (o+j.toNat*s))))
  |_,_=>False):∃v,gz P o get m [] [] v/\K v:=by
 simp only[gu,aG]at hc;let⟨⟨c0,hx⟩,hi⟩:=hc;split at c0
 next n' e he=>
  simp only[aG,ae]at c0;let⟨c1,c2⟩:=c0;subst c1;let⟨et,hu,hei⟩:=zKG he
  have base:∀(v:AV) (j:Int) (k:IntKind) (ei:X get i=.c (.d (.int k j))) (hj:0<=j) (_q:j<n')
    (H:∀(h:PH) (ρ:RM) (p:Value),g_ h ρ (X get x) p->∃B q,p=.pointer (sS ⟨B,q,nN⟩)/\g_ h ρ v (.pointer (sS ⟨B,q+j.toNat*s,nN⟩))),gz P o get m [] [] v:=by
   intro v j k ei hj _q H;refine gz.Z_ λm' h1 ph ρ w a hr hg=>?_;have r1:=iV hx (ph:=ph) (ρ:=ρ) (get:=get) (a:=a) λk hk=>hg k (by rw[ho];simp[Op.operands,hk]);have r2:=iV hi (ph:=ph) (ρ:=ρ) (get:=get) (a:=a) λk hk=>hg k (by rw[ho];simp[Op.operands,hk]);rw[ei]at r2;simp only[g_,m_,RepD]at r2;let⟨B,q,e1,rv⟩:=H ph ρ _ r1;refine⟨_,?_,rv⟩;unfold execOp;rw[ho];refine fG ?_ (fF _);show j_ P (Instr.indexAt T (a.eval ox) (a.eval oi)) w _ w;rw[e1,r2.1];unfold Instr.indexAt;refine(fF (k,j)).bind ((fP hu).bind ?_);refine fG (a:=(sS (⟨B,q,nN⟩:Addr),n',et)) (w':=w) ?_ ?_
   .exact fF _
   refine(fP hu).bind ?_;simp only;rw[aC ⟨hj,_q⟩];refine(fe hei).bind ?_;rw[Z?,c2];exact fF _
  split at hK
  next b q k j ex ei=>
   let⟨k1,k2,hK⟩:=hK;refine⟨_,base _ j k ei k1 k2 λh ρ p rp=>?_,hK⟩;rw[ex]at rp;simp only[g_,m_]at rp⊢;let⟨y,h1,h2⟩:=rp;exact⟨y.1,q,h2,y,h1,rfl⟩
  next s' b i' q k j ex ei=>
   let⟨k1,k2,hK⟩:=hK;refine⟨_,base _ j k ei k1 k2 λh ρ p rp=>?_,hK⟩;rw[ex]at rp;simp only[g_,m_]at rp⊢;let⟨y,h1,h2⟩:=rp;exact⟨y.1,_,h2,y,h1,by rw[Nat.add_assoc]⟩
  next cs q k j ex ei=>
   let⟨k1,k2,hK⟩:=hK;refine⟨_,base _ j k ei k1 k2 λh ρ p rp=>?_,hK⟩;rw[ex]at rp;simp only[g_,m_,RepD]at rp⊢;let⟨B,y,h1,h2⟩:=rp;exact⟨B,_,h1,B,y,by rw[Nat.add_assoc],h2⟩
  .exact hK.elim
 .cases c0
def zHL{i:MX}(ho:o.op=.index T ox oi)(hc:gu P (.idxS x i) (.index T ox oi)=tT){t:fD}{k:IntKind}{j:Int}{b:UInt8}
  (ex:X get x=.c (.d (.str t))) (ei:X get i=.c (.d (.int k j))) (hj:0<=j) (hb:t.data.toList[j.toNat]?=sS b):gz P o get m [] [] (.c (.d (.int .u8 b.toNat))):=by
 simp only[gu,aG]at hc;let⟨⟨c0,hx⟩,hi⟩:=hc;split at c0
 next hu=>
  refine gz.Z_ λm' h1 ph ρ w a hr hg=>?_;have r1:=iV hx (ph:=ph) (ρ:=ρ) (get:=get) (a:=a) λk hk=>hg k (by rw[ho];simp[Op.operands,hk]);have r2:=iV hi (ph:=ph) (ρ:=ρ) (get:=get) (a:=a) λk hk=>hg k (by rw[ho];simp[Op.operands,hk]);rw[ei]at r2;rw[ex]at r1;simp only[g_,m_,RepD]at r1 r2;refine⟨.int .u8 b.toNat,?_,?_⟩
  .unfold execOp;rw[ho];refine fG ?_ (fF _);show j_ P (Instr.index T (a.eval ox) (a.eval oi)) w _ w;rw[r1.1,r2.1];unfold Instr.index;refine(fF (k,j)).bind ((fP hu).bind ?_);simp only;rw[aC hj];have hb':t[j.toNat]?=sS b:=by
    rw[<-hb];show(if h:_ then _ else _)=_;by_cases h:j.toNat<t.size
    .have:j.toNat<t.data.size:=h;simp[h,this,bM];rfl
    .have h2:¬j.toNat<t.data.size:=h;simp[h,h2]
   rw[hb'];exact fF _
  .simp only[g_,m_,RepD];have:=b.toNat_lt;refine⟨trivial,by simp[IntKind.min,IntKind.signed],?_⟩;simp only[IntKind.max,IntKind.signed,IntKind.bits];simp;omega
 .cases c0
end
end Go.Abs
namespace Go.Abs
variable {T T' ty e:TypeId}{i:TypeInfo}{d':TypeDesc}{base:Option Addr}{x:Value}{w:World}{new:Array Value}{ρ:RM}
variable [jE]
def Vw(n:Nat):∀(r c:Nat),Builtin.growBy n r c<=max c (n+(n+768)/4)
|0,c=>by simp only[Builtin.growBy];omega
| r+1,c=>by
 simp only[Builtin.growBy];split
 .omega
 .have:=Vw n r (c+(c+768)/4);have h2:c+(c+768)/4<=n+(n+768)/4:=oM;omega
def nextslicecap_le{n c:Nat}(h:c<n):Builtin.nextslicecap n c<=2*n+400:=by
 unfold Builtin.nextslicecap;split
 .omega
 .split
  .omega
  .have:=Vw n 4 c;omega
section
variable {P:Program} {get:Nat->AV} {m:Hp} {n:Nat}
def La{sLen sCap k:Nat}{w':World}(hu:P.underlying T=sS (.slice e))(hi:P.info? e=sS i)
  (hu':P.underlying T'=sS d') (_Z:∀k,d'≠.int k) (hn:j_ P (Builtin.lenOf x) w k w) (hle:sLen+k<=sCap) (_w:j_ P (Builtin.firstCells i.size k x) w new w)
  (hst:∀a,base=sS a->j_ P (storeCells (a.add (sLen*i.size)) new.toList) w () w') (hst':base=nN->w'=w):
  j_ P (Builtin.append_ #[T,T'] ty #[.slice base sLen sCap,x]) w (.slice base (sLen+k) sCap) w':=by
 unfold Builtin.append_
 show j_ P (do
  let d<-underlying T
  _) w _ w'
 refine(fP hu).bind ((fe hi).bind ?_);dsimp only[show(#[T,T']:Array TypeId)[1]?=sS T' from rfl];refine(fP hu').bind ?_;refine fG (a:=oK) (w':=w) ?_ ?_
 .cases d'<;>first|exact fF _|exact absurd rfl (_Z _)
 rw[aB oC];apply fG hn;rw[aC hle];apply fG _w;cases base with
 |none=>
  rw[hst' rfl];exact fF _
 |some a=>
  exact(hst a rfl).bind (fF _)
def World.drew1(w:World):World:={w with drawn:=w.drawn+1}
def PI{zv:Value}{sLen sCap k:Nat}{old:Array Value}(hu:P.underlying T=sS (.slice e))(hi:P.info? e=sS i)
  (hz:i.zero=sS zv) (hu':P.underlying T'=sS d') (_Z:∀k,d'≠.int k) (hn:j_ P (Builtin.lenOf x) w k w) (hgt:sCap<sLen+k) (hb:(sLen+k)*i.bytes<=70368744177664) (_u:0<i.bytes) (hb1:i.bytes<=1073741824)
  (hold:j_ P (Builtin.firstCells i.size sLen (.slice base sLen sCap)) (World.drew1 w) old (World.drew1 w)) (_w:j_ P (Builtin.firstCells i.size k x) (World.drew1 w) new (World.drew1 w)):
  ∃newCap,sLen+k<=newCap/\j_ P (Builtin.append_ #[T,T'] ty #[.slice base sLen sCap,x]) w (.slice (sS ⟨w.heap.size,0,nN⟩) (sLen+k) newCap)
   {World.drew1 w with heap:=w.heap.push (.cells (old++new++Builtin.zeroCells zv.cells (newCap-(sLen+k))) e)}:=by
 have hneed:sLen+k<=70368744177664:=by
  have:(sLen+k)*1<=(sLen+k)*i.bytes:=Nat.mul_le_mul_left _ _u;omega
 let q:Question:=.appendCap (sLen+k) sCap e;refine⟨q.cut (w.tape w.drawn q),?_,?_⟩
 .show sLen+k<=(Question.appendCap (sLen+k) sCap e).cut _;simp only[Question.cut];omega
 unfold Builtin.append_;refine(fP hu).bind ((fe hi).bind ?_);dsimp only[show(#[T,T']:Array TypeId)[1]?=sS T' from rfl];refine(fP hu').bind ?_;refine fG (a:=oK) (w':=w) ?_ ?_
 .cases d'<;>first|exact fF _|exact absurd rfl (_Z _)
 rw[aB oC];apply fG hn;rw[aB oM];refine(fu hi).bind ?_;rw[aB (by
  rintro⟨_,h⟩
  rcases h with h|h
  .cases h
  .omega)]
 refine(fu hi).bind ?_;rw[aB (by
  have h1:=nextslicecap_le hgt;have h2:Builtin.nextslicecap (sLen+k) sCap*i.bytes<=(2*(sLen+k)+400)*i.bytes:=cZ _ h1;have h3:(2*(sLen+k)+400)*i.bytes=2*((sLen+k)*i.bytes)+400*i.bytes:=by rw[bF,Nat.mul_assoc]
  omega)]
 refine fG (a:=q.cut (w.tape w.drawn q)) (w':=World.drew1 w) ?_ ?_
 .rfl
 refine(fu hi).bind ((j_.askRoom _).bind ?_);apply hold.bind;apply fG _w;refine(fo hi hz).bind ?_;unfold newRow;exact((gD _).bind (fF _)).bind (fF _)
def gp.one{h:PH}{s:Nat}:∀{es:List (List AC)} {vs:List Value},gp h ρ s es vs->lN vs=lN es*s->∀v,v∈vs->v.one1=tT
|[],vs,_,e,v,hv=>by
 have:vs=[]:=uM e;subst this;cases hv
| e0::es,vs,r,e,v,hv=>by
 simp only[gp]at r;have hl:lN vs=s+lN es*s:=by simpa[bF,dU]using e
 rw[<-dA s vs]at hv;rcases aL.1 hv with hv|hv
 .have:=r.2.1.take;rw[r.1]at this;exact gY.one this (by simp;omega) v hv
 .exact gp.one r.2.2 (by simp;omega) v hv
def gp.takeAll{ph:PH}{s:Nat}:∀{es:List (List AC)} {us:List Value},gp ph ρ s es us->gp ph ρ s es (us.take (es.length*s))
|[],us,_=>by simp[gp]
| e::es,us,r=>by
 simp only[gp]at r⊢;have e2:(e::es).length*s=s+es.length*s:=by simp[bF,dU]
 have hl:=r.2.1.length;refine⟨r.1,?_,?_⟩
 .have:=r.2.1.take;rw[r.1]at this;rw[e2,List.take_add];exact this.more _
 .rw[e2,List.take_add];rw[bV (by simp;omega),List.drop_of_length_le (by simp;omega)];simpa using gp.takeAll r.2.2
def Lb{s:Nat}{y:MX}{K:oh->oO->Prop}(hK:qb get m s K y):∃ys rd,K ys rd/\∀{m':Hp},(∀b,b∈rd->m' b=m b)->∀{ph:PH} {ρ:RM} {w:World} {v:Value},E_ ph ρ m' w.heap->g_ ph ρ (X get y) v->
  ∃new:oP,j_ P (Builtin.lenOf v) w (lN ys) w/\(∀w2:World,w2.heap=w.heap->j_ P (Builtin.firstCells s (lN ys) v) w2 new.toArray w2)/\lN new=lN ys*s/\gp ph ρ s ys new:=by
 unfold qb at hK;split at hK
 next fl s' ys ey=>
  obtain⟨k1,hK⟩:=hK;subst k1;refine⟨_,_,hK,λ{m'} hm {ph ρ w v} hr rv=>?_⟩;rw[ey]at rv;simp only[g_,m_,RepD]at rv;obtain⟨a,cap,r1,r2,r3,r4,r5,r6,r7⟩:=rv;subst r1;have htot:=r7.total;refine⟨(cellsAt ph a).take (lN ys*s),by simp only[aa];exact fF _,?_,by simp;omega,?_⟩
  .intro w2 hw2;simp only[aa];cases a with
   |none=>
    have:=(r5 rfl).1;subst this;simp only[Builtin.firstCells];simpa using (fF (#[]:Array Value))
   | some q=>
    obtain⟨B,off,spot⟩:=q;simp only[Builtin.firstCells];by_cases hys:lN ys=0
    .rw[hys];simp only[bW,List.take_zero];simpa using j_.loadCells0 (P:=P) _ w2
    have:=r6 _ rfl oM;simp only at this;subst this;have hlen:((cellsAt ph (sS ⟨B,off,nN⟩)).take (lN ys*s)).length=lN ys*s:=by simp;omega
    have:=fw (P:=P) (w:=w2) (B:=B) (o:=off) (vs:=(cellsAt ph (sS ⟨B,off,nN⟩)).take (lN ys*s)) (λj u hj=>by
     have _q:=Ho hj;simp only[cellsAt,bE]at _q;unfold hcells at _q;cases hB:ph B with
     |none=>rw[hB]at _q;simp at _q
     | some ob=>
      rw[hB]at _q;cases ob with
      |cells c T' fr=>
       rw[cell_of (by rw[hw2];exact hr.pers B _ hB)];simpa using _q
      |_=>simp at _q)
    rw[hlen]at this;exact this
  .have r8:=gp.of_E (ρ:=ρ) r7;have:=r8.takeAll;simpa using this
 next s' b off len ey=>
  split at hK
  next s'' es eb=>
   obtain⟨k1,k2,k3,hK⟩:=hK;subst k1 k2;refine⟨_,_,hK,λ{m'} hm {ph ρ w v} hr rv=>?_⟩;rw[ey]at rv;simp only[g_,m_]at rv;obtain⟨p,a,r1,r2,r3,r4,_⟩:=rv;subst r2;have _Q:=hr.own b p r1;rw[hm b oC,eb]at _Q;have hlen:((es.drop off).take len).length=len:=by simp;omega
   rw[hlen];rcases _Q with⟨h1,h2⟩|⟨us,U,g1,g2,g3,g5,g4⟩
   .subst h2;have:len=0:=by simp at k3;omega
    subst this;refine⟨[],fF _,λw2 _=>?_,oC,by simp[gp]⟩;cases a with
    |none=>exact fF _
    |some q=>simp only[Builtin.firstCells,bW];exact fF _
   .have hm2:(off+len)*s<=p.2*s:=cZ s r3;have e2:(off+len)*s=off*s+len*s:=bF ..;refine⟨(us.drop (off*s)).take (len*s),fF _,λw2 hw2=>?_,by simp;omega,?_⟩
    .by_cases _k:off<p.2
     .have:=r4 _k;subst this;simp only[Builtin.firstCells];have hl2:((us.drop (off*s)).take (len*s)).length=len*s:=by simp;omega
      have:=fw (P:=P) (w:=w2) (B:=p.1) (o:=off*s) (vs:=(us.drop (off*s)).take (len*s)) (λj u hj=>by
       have _q:=Ho hj;rw[cell_of (by rw[hw2];exact g1)]
       simpa[bE]using _q)
      rw[hl2]at this;exact this
     .have:len=0:=oM;subst this;cases a with
      |none=>simp only[Builtin.firstCells,bW,List.take_zero];exact rfl
      |some q=>simp only[Builtin.firstCells,bW,List.take_zero];exact rfl
    .have r5:=(g4.drop off).takeEs len;have:=r5.takeAll;rw[hlen]at this;exact this
  .exact hK.elim
 .exact hK.elim
end
end Go.Abs
