/- Texts of ours, joined and written short by a program of ours. -/
import Derived.Test.YtnbgmeamdkggeaaGreatDoorJ00
set_option maxRecDepth 20000
set_option maxHeartbeats 4000000
set_option linter.unusedVariables false
set_option linter.unusedSectionVars false
set_option linter.unusedSimpArgs false
set_option linter.defProp false
set_option linter.unnecessarySimpa false
namespace Go.Abs
variable [jQ]
inductive mP where
|mv (x:MX)
|pick (c a b:MX)
|binI (op:BinOp) (x y:MX)
|divI (op:BinOp) (x y:MX)
|shI (op:BinOp) (x y:MX)
|binS (op:BinOp) (x y:MX)
|cat (x y:MX)
|binB (op:BinOp) (x y:MX)
|not (x:MX)
|neg (x:MX)
|convI (k:IntKind) (x:MX)
|boxP (x:MX)
|boxM (x:MX)
|alloc (z:List D)
|build (z:List D) (ps:List (Nat × Nat × MX))
|buildSl (s:Nat) (xs:List MX)
|buildSlM (s:Nat) (xs:List MX)
|load (ag:Bool) (sz:Nat) (x:MX)
|store (sz:Nat) (a v:MX)
|faddr (off:Nat) (x:MX)
|iaddrS (s:Nat) (x i:MX)
|iaddrA (len s:Nat) (x i:MX)
|idxS (x i:MX)
|len (x:MX)
|lenS (x:MX)
|nilck (x:MX)
|extract (x:MX) (i:Nat)
|slice (s:Nat) (x:MX) (lo hi:Option MX)
|sliceS (x:MX) (lo hi:Option MX)
|append (s bytes:Nat) (x y:MX)
|mkfn (f:FuncId) (caps:List MX)
|call (f:FuncId) (xs:List MX)
|mkmap
|mlook (kk:Nat) (ok ag:Bool) (z:List D) (x k:MX)
|mset (kk:Nat) (x k v:MX)
|mkslM (z:List D) (bytes:Nat) (x y:MX)
|eqAg (ne:Bool) (ks:List Nat) (x y:MX)
|callM (f:FuncId) (xs:List MX)
|calldM (x:MX) (xs:List MX)
|isNil (ne:Bool) (x:MX)
|isNilP (ne:Bool) (x:MX)
|minI (mx:Bool) (x y:MX)
|mkifc (T:TypeId) (ag:Bool) (x:MX)
|callX (f:FuncId) (xs:List MX)
|panicX (x:MX)
|copy (s:Nat) (x y:MX)
|tas (T:TypeId) (ok ag:Bool) (z:List D) (x:MX)
|invk (name:String) (x:MX)
|calldX (x:MX) (xs:List MX)
|toBs (x:MX)
|toStr (x:MX)
def yR(mx:Bool)(a b:Int):Int:=if mx=true then(if b>a then b else a)else(if b<a then b else a)
def DI(v:Value):Prop:=∃t,v=.bool t
def xO:Nat->D->D->Option Bool
|0,.int k a,.int k' b=>if k=k' then some (decide (a=b))else none
|1,.str a,.str b=>some (decide (a=b))
|2,.bool a,.bool b=>some (a==b)
|3,.sc (.agg ⟨[.int k a,.string s]⟩),.sc (.agg ⟨[.int k' b,.string t]⟩)=>if k=k' then some (decide (a=b)&&decide (s=t))else none
|_,_,_=>none
def rP:Nat->AV->AV
|3,.ag [.d (.int k a),.d (.str s)]=>.c (.d (.sc (.agg ⟨[.int k a,.string s]⟩)))
|3,_=>.tup []
|_,v=>v
@[simp] theorem zhS(v:AV):rP 1 v=v:=(aL _).trans rfl
def pU:List D->List D->List (D × AV)
|k::ks,v::vs=>(k,.c (.d v))::pU ks vs
|_,_=>[]
def jS(kk:Nat)(d:D):List (D × AV)->Nat->Option (Option (Nat × AV))
|[],_=>some none
|e::es,i=>match xO kk d e.1 with
 |some true=>some (some (i,e.2))
 |some false=>jS kk d es (i+1)
 |none=>none
def AZ(g:Bool)(cs:List D):DV:=if g then .agg cs else .one (cs.headD .any)
def je(ag:Bool)(z:List D):AV:=match ag with
|true=>.ag (z.map .d)
|false=>.c (.d (z.headD .any))
def zH:List Nat->List D->List D->Option Bool
|[],[],[]=>some true
|k::ks,a::ι,b::bs=>match xO k a b,zH ks ι bs with
 |some x,some y=>some (x&&y)
 |_,_=>none
|_,_,_=>none
def callee (P : Program) (f : FuncId) : Bool := match P.funcs[f]? with | some fn => fn.name != "runtime.NumGoroutine" && fn.body.isSome | none => false
def fu(P:Program)(f:FuncId)(args:List DV)(v:DV):Prop:=
 callee P f=true/\∀(h:PH) (w:World) (argsC:List Value),(∀B o,h B=some o->w.heap[B]?=some o)->Gnd P h->jQ.ok h (λ_=>True) w->ja h args argsC->
  Calls P f argsC.toArray w λe w'=>∃(vC:Value) (h':PH),e=.returned vC/\h.le h'/\(∀B,B<w.heap.size->h' B=h B)/\(∀B o,h' B=some o->w'.heap[B]?=some o)/\
   w.heap.size<=w'.heap.size/\(∀B,B<w.heap.size->w'.heap[B]?=w.heap[B]?)/\Same w w'/\jZ h' v vC
def MCall(P:Program)(f:FuncId)(args:List AV)(bs:List Blk)(v:AV)(bs':List Blk):Prop:=
 callee P f=true/\bs.length<=bs'.length/\(∀i,i<bs'.length->hpOf bs' i≠.non)/\v.lv (live bs')=true/\(∀b,b∈bs'->b.lv (live bs')=true)/\
 ∀(h:PH) (ρ:RM) (w:World) (argsC:List Value),HRel h ρ (hpOf bs) w.heap->Gnd P h->jQ.ok h (jm ρ (hpOf bs)) w->zad h ρ args argsC->
  Calls P f argsC.toArray w λe w'=>∃(vC:Value) (h':PH) (ρ':RM),e=.returned vC/\ng h ρ (hpOf bs) w.heap h' ρ' (hpOf bs') w'.heap/\HRel h' ρ' (hpOf bs') w'.heap/\Same w w'/\RepV h' ρ' v vC/\∀i,i<bs.length->ρ' i=ρ i
def om(P:Program)(f:FuncId)(args:List AV)(bs:List Blk)(pv:Value)(bs':List Blk):Prop:=
 callee P f=true/\bs.length<=bs'.length/\(∀i,i<bs'.length->hpOf bs' i≠.non)/\(∀b,b∈bs'->b.lv (live bs')=true)/\
 ∀(h:PH) (ρ:RM) (w:World) (argsC:List Value),HRel h ρ (hpOf bs) w.heap->Gnd P h->jQ.ok h (jm ρ (hpOf bs)) w->zad h ρ args argsC->
  Calls P f argsC.toArray w λe w'=>∃(h':PH) (ρ':RM),e=.panicked [{v:=pv,recovered:=false}]/\ng h ρ (hpOf bs) w.heap h' ρ' (hpOf bs') w'.heap/\HRel h' ρ' (hpOf bs') w'.heap/\Same w w'/\∀i,i<bs.length->ρ' i=ρ i
inductive XO where
|ret (v:AV)
|pan (pv:Value)
def gP(P:Program)(f:FuncId)(args:List AV)(bs:List Blk):XO->List Blk->Prop
|.ret v,bs'=>MCall P f args bs v bs'
|.pan pv,bs'=>om P f args bs pv bs'
def vX(P:Program)(f:FuncId)(vs:List AV)(m:Hp)(n:Nat)(K:AV->List Nat->List (Nat × Blk)->Nat->Prop):Prop:=
∃(l:List Nat) (args:List AV) (bs:List Blk) (v:AV) (bs':List Blk),MCall P f args bs v bs'/\l.Nodup/\(∀i,i∈l->i<n)/\vs=AV.rens (gm l) args/\AV.lts l.length args=true/\(∀b,b∈bs->b.lt l.length=true)/\oN m (gm l) l bs/\uJ m n (bs'.length-bs.length)/\
 K (v.ren (gm (l++gT n (bs'.length-bs.length)))) [] (ni (gm (l++gT n (bs'.length-bs.length))) (l++gT n (bs'.length-bs.length)) bs') (n+(bs'.length-bs.length))
def BQ(P:Program)(f:FuncId)(vs:List AV)(m:Hp)(n:Nat)(K:Value->List (Nat × Blk)->Nat->Prop):Prop:=
∃(l:List Nat) (args:List AV) (bs:List Blk) (pv:Value) (bs':List Blk),om P f args bs pv bs'/\l.Nodup/\(∀i,i∈l->i<n)/\vs=AV.rens (gm l) args/\AV.lts l.length args=true/\(∀b,b∈bs->b.lt l.length=true)/\oN m (gm l) l bs/\uJ m n (bs'.length-bs.length)/\
 K pv (ni (gm (l++gT n (bs'.length-bs.length))) (l++gT n (bs'.length-bs.length)) bs') (n+(bs'.length-bs.length))
mutual
def DV.av:DV->AV
|.one x=>.c (.d x)
|.agg cs=>.ag (cs.map .d)
|.tup vs=>.tup (DV.avs vs)
def DV.avs:List DV->List AV
|[]=>[]
|v::vs=>DV.av v::DV.avs vs
end
mutual
def jZ.av{h:PH}{ρ:RM}:∀{x:DV} {v:Value},jZ h x v->RepV h ρ x.av v
|.one x,v,r=>by simp only[jZ]at r;simp only[DV.av,RepV,RepC];exact r
|.agg cs,v,r=>by
 simp only[jZ]at r;obtain⟨vs,h1,h2,h3⟩:=r;simp only[DV.av,RepV];exact⟨vs,h1,by simpa using h2,gK.of_D h3⟩
|.tup xs,v,r=>by
 simp only[jZ]at r;obtain⟨vs,h1,h2⟩:=r;simp only[DV.av,RepV];exact⟨vs,h1,ja.avs h2⟩
def ja.avs{h:PH}{ρ:RM}:∀{xs:List DV} {vs:List Value},ja h xs vs->zad h ρ (DV.avs xs) vs
|[],vs,r=>by simpa[ja,DV.avs,zad]using r
|_::_,[],r=>by simp[ja]at r
|x::xs,v::vs,r=>by
 simp only[ja]at r;simp only[DV.avs,zad];exact⟨jZ.av r.1,ja.avs r.2⟩
end
def zI:AV->Option DV
|.c (.d x)=>some (.one x)
|.ag cs=>(jC cs).map .agg
|_=>none
def xP:List AV->Option (List DV)
|[]=>some []
|v::vs=>match zI v,xP vs with
 |some x,some xs=>some (x::xs)
 |_,_=>none
def zfM{h:PH}{ρ:RM}{v:AV}{x:DV}{u:Value}(e:zI v=some x)(r:RepV h ρ v u):jZ h x u:=by
 unfold zI at e;split at e
 ·cases e;simpa only[RepV,RepC,jZ]using r
 ·rename_i cs;simp only[aJ]at e;obtain⟨ds,h1,h2⟩:=e;subst h2;have:=AY h1;subst this;simp only[RepV]at r;obtain⟨vs,e1,e2,e3⟩:=r;simp only[jZ];exact⟨vs,e1,by simpa using e2,gK.to_D e3⟩
 ·cases e
def KE{h:PH}{ρ:RM}:∀{vs:List AV} {xs:List DV} {us:List Value},xP vs=some xs->zad h ρ vs us->ja h xs us
|[],xs,us,e,r=>by simp[xP]at e;subst e;simpa[zad,ja]using r
|v::vs,xs,[],e,r=>by simp[zad]at r
| v::vs,xs,u::us,e,r=>by
 simp only[zad]at r;simp only[xP]at e;split at e
 ·rename_i x xs' h1 h2;cases e;simp only[ja];exact⟨zfM h1 r.1,KE h2 r.2⟩
 ·cases e
def cut{α:Type}(cs:List α)(off sz:Nat):List α:=if off=0/\cs.length=sz then cs else(cs.drop off).take sz
def put{α:Type}(cs:List α)(off:Nat)(l:List α):List α:=if off=0/\l.length=cs.length then l else splice cs off l
def wu(ag:Bool)(sz:Nat)(cs:List AC)(off:Nat)(K:AV->Prop):Prop:=
 match ag with
 |true=>off+sz<=cs.length/\K (.ag (cut cs off sz))
 |false=>match cs[off]? with
  |some c=>K (.c c)
  |none=>False
def A7(ag:Bool)(sz:Nat)(cs:List D)(off:Nat)(K:AV->Prop):Prop:=
 match ag with
 |true=>off+sz<=cs.length/\K (.ag ((cut cs off sz).map .d))
 |false=>match cs[off]? with
  |some c=>K (.c (.d c))
  |none=>False
def zJ(get:Nat->AV):List AC->List (Nat × Nat × MX)->Option (List AC)
|cs,[]=>some cs
|cs,(off,sz,x)::ps=>match sZ (X get x)with
 |some l=>if l.length=sz/\off+sz<=cs.length then zJ get (put cs off l) ps else none
 |none=>none
def si(get:Nat->AV)(s:Nat):List MX->Option (List (List D))
|[]=>some []
|x::xs=>match cellsD (X get x),si get s xs with
 |some l,some r=>if l.length=s then some (l::r)else none
 |_,_=>none
def p9(get:Nat->AV)(s:Nat):List MX->Option (List (List AC))
|[]=>some []
|x::xs=>match sZ (X get x),p9 get s xs with
 |some l,some r=>if l.length=s then some (l::r)else none
 |_,_=>none
def zK(get:Nat->AV):List MX->Option (List AC)
|[]=>some []
|x::xs=>match X get x,zK get xs with
 |.c c,some r=>if c.one then some (c::r)else none
 |_,_=>none
def bnd(get:Nat->AV)(d:Nat)(K:Nat->Prop):Option MX->Prop
|none=>K d
|some x=>match X get x with
 |.c (.d (.int _ j))=>0<=j/\K j.toNat
 |_=>False
def mH(get:Nat->AV)(m:Hp)(s:Nat)(K:List (List AC)->List Nat->Prop)(y:MX):Prop:=
 match X get y with
 |.c (.d (.sl _ s' ys))=>s=s'/\K (ys.map (·.map .d)) []
 |.c (.msl s' b off len)=>match m b with
  |.arr s'' es=>s=s'/\s=s''/\off+len<=es.length/\K ((es.drop off).take len) [b]
  |_=>False
 |_=>False
def EU:List (List AC)->Option (List (List D))
|[]=>some []
|e::es=>match jC e,EU es with
 |some d,some ds=>some (d::ds)
 |_,_=>none
def mQ(m:Hp):List AC->Option (List D × List Nat)
|[]=>some ([],[])
|.d x::cs=>(mQ m cs).map λp=>(x::p.1,p.2)
| .msl s b off len::cs=>match m b,mQ m cs with
 |.arr s' es,some p=>(match EU es with
  |some ds=>if s=s'/\off+len<=ds.length/\b∉p.2 then some (.sl false s ((ds.drop off).take len)::p.1,p.2++[b])else none
  |none=>none)
 |_,_=>none
|_::_=>none
def ww:List (List AC)->Option (List UInt8)
|[]=>some []
|[.d (.int .u8 n)]::r=>(ww r).map (UInt8.ofNat n.toNat:: ·)
|_::_=>none
def ev (P:Program) (get:Nat->AV) (m:Hp) (n:Nat) (K:AV->List Nat->List (Nat × Blk)->Nat->Prop):mP->Prop
|.mv x=>K (X get x) [] [] n
|.pick c a b=>match X get c with
 |.c (.d (.bool t))=>(t=true->K (X get a) [] [] n)/\(t=false->K (X get b) [] [] n)
 |_=>False
|.binI op x y=>match X get x,X get y with
 |.c (.d (.int k a)),.c (.d (.int k' b))=>k=k'/\(match DC op k a b with|some d=>K (.c (.d d)) [] [] n|none=>False)
 |_,_=>False
|.divI op x y=>match X get x,X get y with
 |.c (.d (.int k a)),.c (.d (.int k' b))=>k=k'/\b≠0/\(match op with|.quo=>K (.c (.d (.int k (k.wrap (a.tdiv b))))) [] [] n|.rem=>K (.c (.d (.int k (a.tmod b)))) [] [] n|_=>False)
 |_,_=>False
|.shI op x y=>match X get x,X get y with
 |.c (.d (.int k a)),.c (.d (.int k' b))=>0<=b/\(match op with|.shl=>K (.c (.d (.int k (k.wrap (a*2^min b.toNat k.bits))))) [] [] n|.shr=>K (.c (.d (.int k (a.fdiv (2^min b.toNat k.bits))))) [] [] n|_=>False)
 |_,_=>False
|.binS op x y=>match X get x,X get y with
 |.c (.d (.str a)),.c (.d (.str b))=>(match DD op a b with|some d=>K (.c (.d d)) [] [] n|none=>False)
 |_,_=>False
|.cat x y=>match X get x,X get y with
 |.c (.d (.str a)),.c (.d (.str b))=>a.size+b.size<=zao/\K (.c (.d (.str (a++b)))) [] [] n
 |_,_=>False
|.binB op x y=>match X get x,X get y with
 |.c (.d (.bool a)),.c (.d (.bool b))=>(match DF op a b with|some d=>K (.c (.d d)) [] [] n|none=>False)
 |_,_=>False
|.not x=>match X get x with
 |.c (.d (.bool a))=>K (.c (.d (.bool (!a)))) [] [] n
 |_=>False
|.neg x=>match X get x with
 |.c (.d (.int k a))=>K (.c (.d (.int k (k.wrap (0-a))))) [] [] n
 |_=>False
|.convI k x=>match X get x with
 |.c (.d (.int _ a))=>K (.c (.d (.int k (k.wrap a)))) [] [] n
 |_=>False
|.boxP x=>match cellsD (X get x)with
 |some ds=>K (.c (.d (.rp ds 0))) [] [] n
 |none=>False
|.boxM x=>match sZ (X get x)with
 |some cs=>m n=.non/\K (.c (.ptr n 0)) [] [(n,.box cs)] (n+1)
 |none=>False
|.alloc z=>m n=.non/\K (.c (.ptr n 0)) [] [(n,.box (z.map .d))] (n+1)
|.build z ps=>match zJ get (z.map .d) ps with
 |some cs=>K (.ag cs) [] [] n
 |none=>False
|.buildSl s xs=>match si get s xs with
 |some es=>K (.c (.d (.sl true s es))) [] [] n
 |none=>False
|.buildSlM s xs=>match p9 get s xs with
 |some es=>m n=.non/\K (.c (.msl s n 0 xs.length)) [] [(n,.arr s es)] (n+1)
 |none=>False
| .load ag sz x=>match X get x with
 |.c (.d (.rp cs off))=>A7 ag sz cs off λv=>K v [] [] n
 |.c (.ptr b off)=>match m b with
  |.box cs=>wu ag sz cs off λv=>K v [b] [] n
  |_=>False
 |.c (.ept s b i off)=>match m b with
  |.arr s' es=>s=s'/\(match es[i]? with|some e=>wu ag sz e off λv=>K v [b] [] n|none=>False)
  |_=>False
 |.c (.d (.sc (.pointer (some ⟨B,off,none⟩))))=>match jQ.row B with
  |some ds=>wu ag sz (ds.map .d) off λv=>K v [] [] n
  |none=>False
 |_=>False
| .store sz a v=>match X get a,sZ (X get v)with
 |.c (.ptr b off),some l=>match m b with
  |.box cs=>l.length=sz/\off+sz<=cs.length/\K (.c (.d .any)) [] [(b,.box (put cs off l))] n
  |_=>False
 |.c (.ept s b i off),some l=>match m b with
  |.arr s' es=>s=s'/\l.length=sz/\off+sz<=s/\(match es[i]? with|some e=>K (.c (.d .any)) [] [(b,.arr s (es.set i (put e off l)))] n|none=>False)
  |_=>False
 |_,_=>False
|.faddr off x=>match X get x with
 |.c (.ptr b o)=>K (.c (.ptr b (o+off))) [] [] n
 |.c (.ept s b i o)=>K (.c (.ept s b i (o+off))) [] [] n
 |.c (.d (.rp cs o))=>K (.c (.d (.rp cs (o+off)))) [] [] n
 |.c (.d (.sc (.pointer (some ⟨B,o,none⟩))))=>K (.c (.d (.sc (.pointer (some ⟨B,o+off,none⟩))))) [] [] n
 |_=>False
|.iaddrS s x i=>match X get x,X get i with
 |.c (.d (.sl _ s' es)),.c (.d (.int _ j))=>s=s'/\0<=j/\(match es[j.toNat]? with|some e=>K (.c (.d (.rp e 0))) [] [] n|none=>False)
 |.c (.msl s' b off len),.c (.d (.int _ j))=>s=s'/\0<=j/\j<len/\K (.c (.ept s b (off+j.toNat) 0)) [] [] n
 |.c (.d (.sc (.slice (some ⟨B,q,none⟩) len _))),.c (.d (.int _ j))=>0<=j/\j<len/\K (.c (.d (.sc (.pointer (some ⟨B,q+j.toNat*s,none⟩))))) [] [] n
 |_,_=>False
|.iaddrA len s x i=>match X get x,X get i with
 |.c (.ptr b o),.c (.d (.int _ j))=>0<=j/\j<len/\K (.c (.ptr b (o+j.toNat*s))) [] [] n
 |.c (.ept s' b i' o),.c (.d (.int _ j))=>0<=j/\j<len/\K (.c (.ept s' b i' (o+j.toNat*s))) [] [] n
 |.c (.d (.rp cs o)),.c (.d (.int _ j))=>0<=j/\j<len/\K (.c (.d (.rp cs (o+j.toNat*s)))) [] [] n
 |_,_=>False
|.idxS x i=>match X get x,X get i with
 |.c (.d (.str t)),.c (.d (.int _ j))=>0<=j/\(match t.data.toList[j.toNat]? with|some b=>K (.c (.d (.int .u8 b.toNat))) [] [] n|none=>False)
 |_,_=>False
| .len x=>match X get x with
 |.c (.d (.sl _ _ es))=>K (.c (.d (.int .i64 es.length))) [] [] n
 |.c (.msl _ b off l)=>match m b with
  |.arr _ es=>off+l<=es.length/\K (.c (.d (.int .i64 l))) [b] [] n
  |_=>False
 |.c (.d (.sc (.slice (some _) l _)))=>l<=zao/\K (.c (.d (.int .i64 l))) [] [] n
 |_=>False
|.lenS x=>match X get x with
 |.c (.d (.str t))=>K (.c (.d (.int .i64 t.size))) [] [] n
 |_=>False
|.nilck x=>match X get x with
 |.c (.ptr b o)=>K (.c (.ptr b o)) [] [] n
 |.c (.ept s b i o)=>K (.c (.ept s b i o)) [] [] n
 |.c (.d (.rp cs o))=>K (.c (.d (.rp cs o))) [] [] n
 |.c (.d (.sc (.pointer (some a))))=>K (.c (.d (.sc (.pointer (some a))))) [] [] n
 |_=>False
| .extract x i=>match X get x with
 |.tup vs=>match vs[i]? with
  |some v=>K v [] [] n
  |none=>False
 |_=>False
|.slice s x lo hi=>match X get x with
 |.c (.d (.sl e s' es))=>s=s'/\bnd get es.length (λh=>bnd get 0 (λl=>l<=h/\h<=es.length/\K (.c (.d (.sl (e&&hi.isNone) s ((es.take h).drop l)))) [] [] n) lo) hi
 |.c (.msl s' b off len)=>s=s'/\bnd get len (λh=>bnd get 0 (λl=>l<=h/\h<=len/\K (.c (.msl s b (off+l) (h-l))) [] [] n) lo) hi
 |_=>False
|.sliceS x lo hi=>match X get x with
 |.c (.d (.str t))=>bnd get t.size (λh=>bnd get 0 (λl=>l<=h/\h<=t.size/\K (.c (.d (.str (t.extract l h)))) [] [] n) lo) hi
 |_=>False
| .append s bytes x y=>match X get x with
 |.c (.msl s' b off len)=>match m b with
  | .arr s'' es=>s=s'/\s=s''/\off=0/\len<=es.length/\m n=.non/\mH get m s (λys rd=>(len+ys.length)*bytes<=70368744177664/\(rd=[]\/rd=[b]\/b∉rd)/\
    K (.c (.msl s n 0 (len+ys.length))) rd [(b,.dead),(n,.arr s (es.take len++ys))] (n+1)) y
  |_=>False
 |.c (.d (.sl true s' []))=>m n=.non/\mH get m s (λys rd=>ys.length*bytes<=70368744177664/\K (.c (.msl s n 0 ys.length)) rd [(n,.arr s ys)] (n+1)) y
 |.c (.d (.sl true s' (e::es)))=>s=s'/\m n=.non/\mH get m s (λys rd=>(ys=[]->K (.c (.d (.sl true s (e::es)))) rd [] (n+1))/\(ys≠[]->((e::es).length+ys.length)*bytes<=70368744177664/\K (.c (.msl s n 0 ((e::es).length+ys.length))) rd [(n,.arr s ((e::es).map (·.map .d)++ys))] (n+1))) y
 |_=>False
| .mkfn f caps=>match zK get caps with
 |some cs=>match jC cs with
  |some ds=>K (.c (.d (.fn (.func f) ds))) [] [] n
  |none=>K (.c (.fn (.func f) cs)) [] [] n
 |none=>False
|.call f xs=>match xP (xs.map (X get))with
 |some ds=>∃v,fu P f ds v/\K v.av [] [] n
 |none=>False
|.callM f xs=>vX P f (xs.map (X get)) m n K
|.calldM x xs=>match X get x with
 |.c (.fn (.func f) caps)=>vX P f (xs.map (X get)++caps.map .c) m n K
 |.c (.d (.fn (.func f) caps))=>vX P f (xs.map (X get)++caps.map λc=>.c (.d c)) m n K
 |_=>False
| .mkifc T ag x=>match ag,X get x with
 |true,.ag cs=>(match jC cs with
  |some ds=>K (.c (.d (.ifc T true ds))) [] [] n
  |none=>False)
 |false,.c (.d d)=>d.one=true/\K (.c (.d (.ifc T false [d]))) [] [] n
 | false,.c (.ptr b off)=>(match m b with
  |.box cs=>match mQ m cs with
   |some (ds,l)=>b∉l/\K (.c (.d (.ifc T false [.rp ds off]))) [] ((l++[b]).map λj=>(j,.dead)) n
   |none=>False
  |_=>False)
 |_,_=>False
|.tas T ok ag z x=>match X get x with
 |.c (.d (.ifc t g cs))=>(t≠T->ok=true)/\K (if t=T then(if ok then .tup [je g cs,.c (.d (.bool true))]else je g cs)else .tup [je ag z,.c (.d (.bool false))]) [] [] n
 |_=>False
|.invk name x=>match X get x with
 |.c (.d (.ifc t g cs))=>∃f v,(∀(u:Value) (w:World),fe P (method (P.types.size+Made.depth) t u name) w (f,u) w)/\fu P f [AZ g cs] v/\K v.av [] [] n
 |_=>False
|.calldX _ _=>False
|.toBs x=>match X get x with
 |.c (.d (.str s))=>K (.c (.d (.sl false 1 (s.data.toList.map λb=>[.int .u8 b.toNat])))) [] [] n
 |_=>False
|.toStr x=>mH get m 1 (λys rd=>∃l,ww ys=some l/\l.length<=zao/\K (.c (.d (.str ⟨l.toArray⟩))) rd [] n) x
|.callX _ _=>False
|.panicX _=>False
| .copy s x y=>match X get x with
 |.c (.msl s' b off len)=>match m b with
  |.arr s'' es=>s=s'/\s=s''/\off+len<=es.length/\mH get m s (λys rd=>ys.length<=len/\K (.c (.d (.int .i64 ys.length))) rd [(b,.arr s (es.take off++ys++es.drop (off+ys.length)))] n) y
  |_=>False
 |_=>False
|.minI mx x y=>match X get x,X get y with
 |.c (.d (.int k a)),.c (.d (.int k' b))=>k=k'/\K (.c (.d (.int k (yR mx a b)))) [] [] n
 |_,_=>False
|.isNilP ne x=>match X get x with
 |.c (.d (.sc (.pointer none)))=>K (.c (.d (.bool !ne))) [] [] n
 |.c (.d (.rp _ _))=>K (.c (.d (.bool ne))) [] [] n
 |.c (.ptr _ _)=>K (.c (.d (.bool ne))) [] [] n
 |.c (.ept _ _ _ _)=>K (.c (.d (.bool ne))) [] [] n
 |_=>False
|.isNil ne x=>match X get x with
 |.c (.d (.sl _ _ (_::_)))=>K (.c (.d (.bool ne))) [] [] n
 |.c (.d (.sl _ _ []))=>K (.c (.op DI)) [] [] n
 |.c (.d (.sc (.slice none _ _)))=>K (.c (.d (.bool !ne))) [] [] n
 |.c (.msl _ _ _ len)=>0<len/\K (.c (.d (.bool ne))) [] [] n
 |_=>False
|.mkmap=>m n=.non/\K (.c (.map n)) [] [(n,.map [])] (n+1)
| .mlook kk ok ag z x k=>match X get x,rP kk (X get k)with
 | .c (.map b),.c (.d d)=>match m b with
  |.map es=>match jS kk d es 0 with
   |some (some (_,v))=>K (if ok then .tup [v,.c (.d (.bool true))]else v) [b] [] n
   |some none=>K (if ok then .tup [je ag z,.c (.d (.bool false))]else je ag z) [b] [] n
   |none=>False
  |_=>False
 |.c (.d (.mp ks us)),.c (.d d)=>match jS kk d (pU ks us) 0 with
  |some (some (_,v))=>K (if ok then .tup [v,.c (.d (.bool true))]else v) [] [] n
  |some none=>K (if ok then .tup [je ag z,.c (.d (.bool false))]else je ag z) [] [] n
  |none=>False
 |.c (.d (.sc (.map none))),.c (.d _)=>K (if ok then .tup [je ag z,.c (.d (.bool false))]else je ag z) [] [] n
 |_,_=>False
| .mset kk x k v=>match X get x,rP kk (X get k)with
 | .c (.map b),.c (.d d)=>match m b with
  |.map es=>match jS kk d es 0 with
   |some (some (i,_))=>K (.c (.d .any)) [] [(b,.map (es.set i (d,X get v)))] n
   |some none=>K (.c (.d .any)) [] [(b,.map (es++[(d,X get v)]))] n
   |none=>False
  |_=>False
 |_,_=>False
|.mkslM z bytes x y=>match X get x,X get y with
 |.c (.d (.int .i64 j)),.c (.d (.int .i64 l))=>0<=j/\j<=l/\l*bytes<=70368744177664/\m n=.non/\K (.c (.msl z.length n 0 j.toNat)) [] [(n,.arr z.length ((List.replicate j.toNat z).map (·.map .d)))] (n+1)
 |_,_=>False
| .eqAg ne ks x y=>match X get x,X get y with
 | .ag cs,.ag cs'=>match jC cs,jC cs' with
  |some a,some b=>match zH ks a b with
   |some t=>K (.c (.d (.bool (t^^ne)))) [] [] n
   |none=>False
  |_,_=>False
 |_,_=>False
def isInt(P:Program)(T:TypeId):Bool:=match P.underlying T with|some (.int _)=>true|_=>false
def Gx(P:Program)(T:TypeId):Option TypeDesc:=match P.underlying T with|some (.slice e)=>P.underlying e|_=>none
def xQ(P:Program)(T:TypeId):Option TypeInfo:=match P.underlying T with|some (.slice e)=>P.info? e|_=>none
def KF(P:Program)(T:TypeId):Option (Nat × TypeInfo):=match P.underlying T with|some (.array n e)=>(P.info? e).map λi=>(n,i)|_=>none
def QW(P:Program)(T:TypeId)(f:Nat):Option (Nat × TypeId × TypeInfo):=
 match P.underlying T with
 |some (.struct fs)=>match fs[f]? with
  |some x=>(P.info? x.type).map λi=>(x.offset,x.type,i)
  |none=>none
 |_=>none
def yS:Option MX->Option Operand->Bool
|none,none=>true
|some x,some o=>gN x o
|_,_=>false
def zeroOf(i:TypeInfo):List Value:=match i.zero with|some z=>z.cells.toList|none=>[]
def BR(P:Program)(pl:Nat->Option (Nat × Nat)):List (Nat × Nat × MX)->List (Nat × Operand)->Bool
|[],[]=>true
|(off,sz,x)::ps,(i,o)::os=>(pl i==some (off,sz))&&gN x o&&BR P pl ps os
|_,_=>false
def BS:List MX->Nat->List (Nat × Operand)->Bool
|[],_,[]=>true
|x::xs,k,(i,o)::os=>(i==k)&&gN x o&&BS xs (k+1) os
|_,_,_=>false
def sj(P:Program):List Nat->Nat->List Field->Bool
|[],_,[]=>true
| k :: ks, i, f :: fs => f.offset == i && f.name != "_" && (match P.underlying f.type with | some (.int _) => k == 0 | some .string => k == 1 | some .bool => k == 2 | _ => false) && sj P ks (i + 1) fs
|_,_,_=>false
def DJ(P:Program)(T:TypeId)(kk:Nat):Bool:=match P.underlying T with
|some (.map k _)=>(match P.underlying k with|some (.int _)=>kk==0|some .string=>kk==1|some .bool=>kk==2|some (.struct fs)=>kk==3&&sj P [0,1] 0 fs.toList&& !P.stoodInHeld k|_=>false)
|_=>false
def QX(P:Program)(T:TypeId):Option TypeId:=match P.underlying T with|some (.map _ e)=>some e|_=>none
def KH(P:Program)(T:TypeId)(z:List D)(bytes:Nat):Bool:=match xQ P T with
|some i=>i.size==z.length&&i.bytes==bytes&&decide (0<bytes)&&decide (0<z.length)&&i.zero.isSome&&vL z (zeroOf i)
|none=>false
def KI(P:Program)(T:TypeId)(ks:List Nat):Bool:=match P.underlying T with
|some (.struct fs)=>sj P ks 0 fs.toList
|_=>false
def zeR{P:Program}{T:TypeId}{ks:List Nat}(h:KI P T ks=true):∃fs,P.underlying T=some (.struct fs)/\sj P ks 0 fs.toList=true:=by
 unfold KI at h;split at h
 ·rename_i fs hu;exact⟨fs,hu,h⟩
 ·cases h
def BU(P:Program)(fs:Array Field)(i:Nat):Option (Nat × Nat):=match fs[i]? with|some f=>(P.info? f.type).map λt=>(f.offset,t.size)|none=>none
def gY(P:Program):mP->Op->Bool
|.mv x,.move o=>gN x o
|.mv x,.assign o=>gN x o
|.pick c a b,.pick c' a' b'=>gN c c'&&gN a a'&&gN b b'
|.binI op x y,.binOp op' _ x' y' _=>decide (op=op')&&gN x x'&&gN y y'
|.divI op x y,.binOp op' _ x' y' _=>decide (op=op')&&(decide (op=.quo)||decide (op=.rem))&&gN x x'&&gN y y'
|.shI op x y,.binOp op' _ x' y' _=>decide (op=op')&&(decide (op=.shl)||decide (op=.shr))&&gN x x'&&gN y y'
|.binS op x y,.binOp op' _ x' y' _=>decide (op=op')&&gN x x'&&gN y y'
|.cat x y,.binOp op' _ x' y' _=>decide (op'=.add)&&gN x x'&&gN y y'
|.binB op x y,.binOp op' T x' y' _=>decide (op=op')&&(match P.underlying T with|some .bool=>true|_=>false)&&gN x x'&&gN y y'
|.not x,.unOp op _ o=>decide (op=.not)&&gN x o
|.neg x,.unOp op _ o=>decide (op=.neg)&&gN x o
|.convI k x,.convert s d o=>(match P.underlying d with|some (.int k')=>decide (k=k')|_=>false)&&(match P.underlying s with|some _=>true|none=>false)&&gN x o
|.toBs x,.convert s d o=>(match P.underlying s with|some .string=>true|_=>false)&&(match Gx P d with|some (.int .u8)=>true|_=>false)&&gN x o
|.toStr x,.convert s d o=>(match P.underlying d with|some .string=>true|_=>false)&&(match Gx P s with|some (.int .u8)=>true|_=>false)&&gN x o
|.boxP x,.box T o=>gN x o
|.boxM x,.box T o=>gN x o
|.alloc z,.alloc T=>(match P.info? T with|some i=>i.zero.isSome&&vL z (zeroOf i)|none=>false)
| .build z ps,.build T os=>(match P.info? T,P.underlying T with
  |some i,some (.struct fs)=>i.zero.isSome&&vL z (zeroOf i)&&fs.toList.all (λf=>(P.info? f.type).isSome)&&BR P (BU P fs) ps os.toList
  |some i,some (.array _ e)=>(match P.info? e with|some j=>i.zero.isSome&&vL z (zeroOf i)&&BR P (λk=>some (k*j.size,j.size)) ps os.toList|none=>false)
  |_,_=>false)
|.buildSl s xs,.buildSlice T n os=>(match xQ P T with|some i=>i.size==s&&i.zero.isSome&&(zeroOf i).length==s&&xs.length==n&&decide (n*s<=16777216)&&decide (n<=16777216)&&BS xs 0 os.toList|none=>false)
|.buildSlM s xs,.buildSlice T n os=>(match xQ P T with|some i=>i.size==s&&i.zero.isSome&&(zeroOf i).length==s&&xs.length==n&&decide (n*s<=16777216)&&decide (n<=16777216)&&BS xs 0 os.toList|none=>false)
|.load ag sz x,.load T o=>yQ P T==some (ag,sz)&&gN x o
|.store sz a v,.store T a' v'=>(match P.info? T with|some i=>i.size==sz&&decide (0<sz)|none=>false)&&gN a a'&&gN v v'
|.faddr off x,.fieldAddr T o f=>(match QW P T f with|some (off',_,i)=>off==off'&&i.size !=0|none=>false)&&gN x o
|.iaddrS s x i,.indexAddr T x' i'=>(match xQ P T with|some e=>e.size==s|none=>false)&&gN x x'&&gN i i'
|.iaddrA len s x i,.indexAddr T x' i'=>(match KF P T with|some (n,e)=>n==len&&e.size==s|none=>false)&&gN x x'&&gN i i'
|.idxS x i,.index T x' i'=>(match P.underlying T with|some .string=>true|_=>false)&&gN x x'&&gN i i'
| .len x,.call c=>(match c.callee,c.args.toList,c.argTypes.toList with
  |.builtin .len,[o],[T]=>gN x o&&(match P.underlying T with|some (.slice _)=>true|_=>false)
  |_,_,_=>false)
| .lenS x,.call c=>(match c.callee,c.args.toList,c.argTypes.toList with
  |.builtin .len,[o],[T]=>gN x o&&(match P.underlying T with|some .string=>true|_=>false)
  |_,_,_=>false)
|.nilck x,.nilCheck o=>gN x o
|.extract x i,.extract o j=>i==j&&gN x o
|.slice s x lo hi,.slice T o l h mx=>(match xQ P T with|some e=>e.size==s|none=>false)&&mx.isNone&&gN x o&&yS lo l&&yS hi h
|.sliceS x lo hi,.slice T o l h mx=>(match P.underlying T with|some .string=>true|_=>false)&&mx.isNone&&gN x o&&yS lo l&&yS hi h
| .copy s x y,.call c=>(match c.callee,c.args.toList,c.argTypes.toList with
  |.builtin .copy,[o,o'],[T,_]=>gN x o&&gN y o'&&(match xQ P T with|some e=>e.size==s&&decide (0<s)|none=>false)
  |_,_,_=>false)
| .append s bytes x y,.call c=>(match c.callee,c.args.toList,c.argTypes.toList with
  |.builtin .append,[o,o'],[T,T']=>gN x o&&gN y o'&& !isInt P T'&&(P.underlying T').isSome&&(match xQ P T with|some e=>e.size==s&&e.bytes==bytes&&decide (0<bytes)&&decide (bytes<=1073741824)&&decide (0<s)&&e.zero.isSome&&(zeroOf e).length==s|none=>false)
  |_,_,_=>false)
|.mkfn f caps,.makeFunc fn first captured=>(match fn with|.func g=>f==g|_=>false)&&first.isEmpty&&uW caps captured.toList
|.call f xs,.call c=>(match c.callee with|.value (.func g)=>f==g|_=>false)&&uW xs c.args.toList
|.callM f xs,.call c=>(match c.callee with|.value (.func g)=>f==g|_=>false)&&uW xs c.args.toList
|.calldM x xs,.call c=>(match c.callee with|.value o=>gN x o|_=>false)&&uW xs c.args.toList
|.callX f xs,.call c=>(match c.callee with|.value (.func g)=>f==g|_=>false)&&uW xs c.args.toList
|.calldX x xs,.call c=>(match c.callee with|.value o=>gN x o|_=>false)&&uW xs c.args.toList
|.invk name x,.call c=>(match c.callee with|.invoke o nm=>nm==name&&gN x o|_=>false)&&c.args.toList.isEmpty
|.tas T ok ag z x,.typeAssert x' _ T' ok'=>T==T'&&ok==ok'&&gN x x'&&(match P.underlying T with|some (.interface _)=>false|some _=>true|none=>false)&&(match P.info? T with|some i=>i.zero.isSome&&vL z (zeroOf i)&&(match i.zero with|some (.agg _)=>ag|some (.tuple _)=>false|some _=> !ag|none=>false)|none=>false)
|.panicX x,.panic o=>gN x o
|.mkifc T ag x,.makeInterface U o=>T==U&&(match P.underlying T with|some (.interface _)=>false|some d=>xN d==ag|none=>false)&&gN x o
|.mkmap,.makeMap _ r=>r.isNone
| .mlook kk ok ag z x k,.lookup T x' k' ok'=>ok==ok'&&gN x x'&&gN k k'&&DJ P T kk&&(match QX P T with
  |some e=>(match P.info? e with|some i=>i.zero.isSome&&vL z (zeroOf i)&&yQ P e==some (ag,z.length)&&(match i.zero with|some (.agg _)=>ag|some (.tuple _)=>false|some _=> !ag|none=>false)|none=>false)
  |none=>false)
|.mset kk x k v,.mapUpdate T x' k' v'=>gN x x'&&gN k k'&&gN v v'&&DJ P T kk
|.mset kk x k v,.insert T x' k' v'=>gN x x'&&gN k k'&&gN v v'&&DJ P T kk
|.mkslM z bytes x y,.makeSlice T l c=>gN x l&&gN y c&&KH P T z bytes
| .minI mx x y,.call c=>(match c.callee,c.args.toList with
  |.builtin .min,[o,o']=> !mx&&gN x o&&gN y o'
  |.builtin .max,[o,o']=>mx&&gN x o&&gN y o'
  |_,_=>false)
|.isNilP ne x,.binOp op T x' y' _=>decide (op=if ne then .neq else .eql)&&gN x x'&&(match y' with|.const (.pointer none)=>true|_=>false)&&(match P.underlying T with|some (.pointer _)=>true|_=>false)
|.isNil ne x,.binOp op T x' y' _=>decide (op=if ne then .neq else .eql)&&gN x x'&&(match y' with|.const (.slice none 0 0)=>true|_=>false)&&(match P.underlying T with|some (.slice _)=>true|_=>false)
|.eqAg ne ks x y,.binOp op T x' y' _=>decide (op=if ne then .neq else .eql)&&gN x x'&&gN y y'&& !P.stoodInHeld T&& !P.eqGuardType P.depth T&&KI P T ks
|_,_=>false
end Go.Abs
namespace Go.Abs
variable [jQ]
section
variable {P:Program} {get:Nat->AV} {m:Hp} {n:Nat}
def QY{o:Oper}{x:MX}{ox:Operand}(ho:o.op=.move ox\/o.op=.assign ox)(h:gN x ox=true):gz P o get m [] [] (X get x):=by
 refine gz.of_pure λm' h1 ph ρ w a hr hg=>⟨a.eval ox,?_,jF h λk hk=>hg k ?_⟩
 ·rcases ho with ho|ho<;>(unfold execOp;rw[ho];exact dx _)
 ·rcases ho with ho|ho<;>(rw[ho];simp[Op.operands,hk])
def zfw{o:Oper}{c x y:MX}{oc ox oy:Operand}(ho:o.op=.pick oc ox oy)(hc:gN c oc=true)(hx:gN x ox=true)(hy:gN y oy=true){t:Bool}(et:X get c=.c (.d (.bool t))):
  gz P o get m [] [] (if t then X get x else X get y):=by
 refine gz.of_pure λm' h1 ph ρ w a hr hg=>⟨if t then a.eval ox else a.eval oy,?_,?_⟩
 ·have rc:=jF hc (ph:=ph) (ρ:=ρ) (get:=get) (a:=a) λk hk=>hg k (by rw[ho];simp[Op.operands,hk]);rw[et]at rc;simp only[RepV,RepC,RepD]at rc;unfold execOp;rw[ho];simp only[rc,asBool];refine dz (a:=t) (dx _) ?_;cases t<;>exact dx _
 ·cases t
  ·exact jF hy λk hk=>hg k (by rw[ho];simp[Op.operands,hk])
  ·exact jF hx λk hk=>hg k (by rw[ho];simp[Op.operands,hk])
def DK{o:Oper}{op:BinOp}{T U:TypeId}{x y:MX}{ox oy:Operand}(ho:o.op=.binOp op T ox oy U)(hx:gN x ox=true)(hy:gN y oy=true){d:D}
  (H:∀(ph:PH) (ρ:RM) (a b:Value) (w:World),RepV ph ρ (X get x) a->RepV ph ρ (X get y) b->¬(a=.nilIface/\b=.nilIface)/\(∀c d,¬(a=.agg c/\b=.agg d))/\∃v,fe P (binOp op T a b) w v w/\RepD ph d v):
  gz P o get m [] [] (.c (.d d)):=by
 refine gz.of_pure λm' h1 ph ρ w a hr hg=>?_;have r1:=jF hx (ph:=ph) (ρ:=ρ) (get:=get) (a:=a) λk hk=>hg k (by rw[ho];simp[Op.operands,hk]);have r2:=jF hy (ph:=ph) (ρ:=ρ) (get:=get) (a:=a) λk hk=>hg k (by rw[ho];simp[Op.operands,hk]);obtain⟨g1,g2,v,hv,rv⟩:=H ph ρ _ _ w r1 r2;refine⟨v,?_,by simpa only[RepV,RepC]using rv⟩;unfold execOp;rw[ho];refine dz (a:=v) ?_ (dx _);exact(zdQ op T ox oy _ _ g1 g2).bind hv
def QZ{o:Oper}{op:UnOp}{T:TypeId}{x:MX}{ox:Operand}(ho:o.op=.unOp op T ox)(hx:gN x ox=true){d:D}
  (H:∀(ph:PH) (ρ:RM) (a:Value) (w:World),RepV ph ρ (X get x) a->∃v,fe P (Op.unary op a) w v w/\RepD ph d v):gz P o get m [] [] (.c (.d d)):=by
 refine gz.of_pure λm' h1 ph ρ w a hr hg=>?_;have r1:=jF hx (ph:=ph) (ρ:=ρ) (get:=get) (a:=a) λk hk=>hg k (by rw[ho];simp[Op.operands,hk]);obtain⟨v,hv,rv⟩:=H ph ρ _ w r1;refine⟨v,?_,by simpa only[RepV,RepC]using rv⟩;unfold execOp;rw[ho];exact hv.bind (dx _)
def fe.convert_int{T U:TypeId}{d:TypeDesc}{k k':IntKind}{j:Int}{w:World}(hT:P.underlying T=some d)(hU:P.underlying U=some (.int k)):
  fe P (convert T U (.int k' j)) w (.int k (k.wrap j)) w:=by
 unfold convert;refine(eT hT).bind ((eT hU).bind ?_);exact dx _
def Q0{ph:PH}{ρ:RM}{m:Hp}{w:World}(H:HRel ph ρ m w.heap){B o:Nat}{cs:List D}(r:RepL ph cs ((hcells ph B).drop o)){j:Nat}{x:D}(e:cs[j]?=some x):
  ∃v,w.cell? ⟨B,o+j,none⟩=some v/\v.one1=true/\RepD ph x v:=by
 obtain⟨v,h1,h2,h3⟩:=r.get e;refine⟨v,?_,h2,h3⟩;rw[bG]at h1;unfold hcells at h1;cases hB:ph B with
 |none=>rw[hB]at h1;simp at h1
 | some ob=>
  rw[hB]at h1;cases ob with
  |cells c T fr=>
   rw[cell_of (H.pers B _ hB)];simpa using h1
  |_=>simp at h1
def DL{α:Type}{l:List α}{n j:Nat}{v:α}(h:(l.take n)[j]?=some v):l[j]?=some v:=by
 rw[dU]at h;split at h
 ·exact h
 ·cases h
def Q3{T:TypeId}{B o sz:Nat}{w:World}{vs:List Value}(hT:yQ P T=some (true,sz))(hl:vs.length=sz)(h:∀j v,vs[j]?=some v->w.cell? ⟨B,o+j,none⟩=some v):
  fe P (loadVar T ⟨B,o,none⟩) w (.agg vs.toArray) w:=by
 obtain⟨d,i,h1,h2,h3,h4⟩:=QV hT;unfold loadVar;refine(fe.isAgg h1).bind ?_;rw[h3,aB rfl];refine(fD h2).bind ?_;rw[h4,<-hl];exact(fG h).bind (dx _)
def Q4{T:TypeId}{B o sz:Nat}{w:World}{v:Value}(hT:yQ P T=some (false,sz))(h:w.cell? ⟨B,o,none⟩=some v):fe P (loadVar T ⟨B,o,none⟩) w v w:=by
 obtain⟨d,i,h1,h2,h3,h4⟩:=QV hT;unfold loadVar;refine(fe.isAgg h1).bind ?_;rw[h3];exact fe.load h
def KJ{α:Type}(cs:List α)(off sz:Nat)(h:off+sz<=cs.length):cut cs off sz=(cs.drop off).take sz:=by
 unfold cut;split
 ·rename_i hh;obtain⟨h1,h2⟩:=hh;subst h1;subst h2;simp
 ·rfl
def Q5{α:Type}(cs:List α)(off sz:Nat)(h:off+sz<=cs.length):(cut cs off sz).length=sz:=by
 rw[KJ cs off sz h];simp;omega
def Q6{T:TypeId}{ag:Bool}{sz:Nat}{cs:List D}{off:Nat}{K:AV->Prop}(hT:yQ P T=some (ag,sz))(hK:A7 ag sz cs off K):
  ∃v,K v/\∀{ph:PH} {ρ:RM} {m:Hp} {w:World} (H:HRel ph ρ m w.heap) {B o:Nat} (r:RepL ph cs ((hcells ph B).drop o)),∃vC,fe P (loadVar T ⟨B,o+off,none⟩) w vC w/\RepV ph ρ v vC:=by
 unfold A7 at hK;cases ag with
 | true=>
  obtain⟨h1,h2⟩:=hK;refine⟨_,h2,λ{ph ρ m w} H {B o} r=>?_⟩;have r':RepL ph (cut cs off sz) (((hcells ph B).drop o).drop off):=by
   rw[KJ cs off sz h1];exact(r.drop off).takeDs sz
  have hlen:=Q5 cs off sz h1;have hle:=r'.length;refine⟨.agg ((((hcells ph B).drop o).drop off).take sz).toArray,Q3 hT (by simp[hlen]at hle⊢;omega) ?_,?_⟩
  ·intro j v hj;have hj':=DL hj;have hjl:j<(cut cs off sz).length:=by
    rw[hlen];rcases aX j sz with h|h
    ·exact h
    ·rw[aM (by simp;omega)]at hj;cases hj
   obtain⟨u,e1,e2,e3⟩:=Q0 (w:=w) H (B:=B) (o:=o+off) (cs:=cut cs off sz) (by rw[<-bO];exact r') (j:=j) (aD hjl);obtain⟨u',e1',e2',e3'⟩:=r'.get (aD hjl);rw[hj']at e1';cases e1';rw[e1];have:=e1
   -- the same cell
   unfold hcells at hj';cases hB:ph B with
   |none=>rw[hB]at hj';simp at hj'
   | some ob=>
    rw[hB]at hj';cases ob with
    |cells c T' fr=>
     rw[cell_of (H.pers B _ hB)]at this;simp only[bG,Array.getElem?_toList]at hj';rw[show o+(off+j)=o+off+j from by omega]at hj';rw[hj']at this;exact this.symm
    |_=>simp at hj'
  ·simp only[RepV];refine⟨_,rfl,by simp[hlen]at hle⊢;omega,gK.of_D ?_⟩;have:=r'.take;rw[hlen]at this;exact this
 | false=>
  simp only at hK;split at hK
  ·rename_i c hc;refine⟨_,hK,λ{ph ρ m w} H {B o} r=>?_⟩;obtain⟨v,e1,e2,e3⟩:=Q0 (w:=w) H r hc;exact⟨v,Q4 hT e1,by simpa only[RepV,RepC]using e3⟩
  ·exact hK.elim
def Gy{T:TypeId}{ag:Bool}{sz:Nat}{cs:List AC}{off:Nat}{K:AV->Prop}(hT:yQ P T=some (ag,sz))(hK:wu ag sz cs off K):
  ∃v,K v/\∀{ph:PH} {ρ:RM} {w:World} {B o:Nat} {vs:List Value} {U:TypeId} {fr:Nat × Nat} (hB:w.heap[B]?=some (.cells vs.toArray U fr)) (r:gK ph ρ cs (vs.drop o)),
   ∃vC,fe P (loadVar T ⟨B,o+off,none⟩) w vC w/\RepV ph ρ v vC:=by
 unfold wu at hK;cases ag with
 | true=>
  obtain⟨h1,h2⟩:=hK;refine⟨_,h2,λ{ph ρ w B o vs U fr} hB r=>?_⟩;have r':gK ph ρ (cut cs off sz) ((vs.drop o).drop off):=by
   rw[KJ cs off sz h1];exact(r.drop off).takeDs sz
  have hlen:=Q5 cs off sz h1;have hle:=r'.length;refine⟨.agg (((vs.drop o).drop off).take sz).toArray,Q3 hT (by simp[hlen]at hle⊢;omega) ?_,?_⟩
  ·intro j v hj;have hj':=DL hj;rw[cell_of hB];simp only[bG]at hj';rw[show o+off+j=o+(off+j)from by omega];simpa using hj'
  ·simp only[RepV];refine⟨_,rfl,by simp[hlen]at hle⊢;omega,?_⟩;have:=r'.take;rw[hlen]at this;exact this
 | false=>
  simp only at hK;split at hK
  ·rename_i c hc;refine⟨_,hK,λ{ph ρ w B o vs U fr} hB r=>?_⟩;obtain⟨v,e1,e2,e3⟩:=r.get hc;refine⟨v,Q4 hT ?_,by simpa only[RepV]using e3⟩;rw[cell_of hB];simpa[bG]using e1
  ·exact hK.elim
end
end Go.Abs
namespace Go.Abs
variable [jQ]
section
variable {P:Program} {get:Nat->AV} {m:Hp} {n:Nat}
def zfB{o:Oper}{T:TypeId}{ag:Bool}{sz:Nat}{x:MX}{ox:Operand}(ho:o.op=.load T ox)(hT:yQ P T=some (ag,sz))(hx:gN x ox=true){K:AV->List Nat->Prop}
  (hK:match X get x with
  |.c (.d (.rp cs off))=>A7 ag sz cs off λv=>K v []
  |.c (.ptr b off)=>match m b with
   |.box cs=>wu ag sz cs off λv=>K v [b]
   |_=>False
  |.c (.ept s b i off)=>match m b with
   |.arr s' es=>s=s'/\(match es[i]? with|some e=>wu ag sz e off λv=>K v [b]|none=>False)
   |_=>False
  |.c (.d (.sc (.pointer (some ⟨B,off,none⟩))))=>match jQ.row B with
   |some ds=>wu ag sz (ds.map .d) off λv=>K v []
   |none=>False
  |_=>False):∃v rd,gz P o get m rd [] v/\K v rd:=by
 have baseS:∀(rd:List Nat) (v:AV) (H:∀m':Hp,(∀b,b∈rd->m' b=m b)->∀(h:PH) (ρ:RM) (w:World) (p:Value),HRel h ρ m' w.heap->jQ.ok h (jm ρ m') w->RepV h ρ (X get x) p->
   ∃B off vC,p=.pointer (some ⟨B,off,none⟩)/\fe P (loadVar T ⟨B,off,none⟩) w vC w/\RepV h ρ v vC),gz P o get m rd [] v:=by
  intro rd v H;refine gz.of_pureS λm' h1 ph ρ w a hr hS hg=>?_;have r1:=jF hx (ph:=ph) (ρ:=ρ) (get:=get) (a:=a) λk hk=>hg k (by rw[ho];simp[Op.operands,hk]);obtain⟨B,off,vC,e,hrun,rv⟩:=H m' h1 ph ρ w _ hr hS r1;refine⟨vC,?_,rv⟩;unfold execOp;rw[ho];refine dz (a:=vC) ?_ (dx _);show fe P (Instr.loadAt T (a.eval ox)) w vC w;rw[e];exact(dx (⟨B,off,none⟩:Addr)).bind hrun
 have base:∀(rd:List Nat) (v:AV) (H:∀m':Hp,(∀b,b∈rd->m' b=m b)->∀(h:PH) (ρ:RM) (w:World) (p:Value),HRel h ρ m' w.heap->RepV h ρ (X get x) p->
   ∃B off vC,p=.pointer (some ⟨B,off,none⟩)/\fe P (loadVar T ⟨B,off,none⟩) w vC w/\RepV h ρ v vC),gz P o get m rd [] v:=
  λrd v H=>baseS rd v λm' h1 h ρ w p hr _ rp=>H m' h1 h ρ w p hr rp
 split at hK
 ·rename_i cs off ex;obtain⟨v,kv,H⟩:=Q6 hT hK;refine⟨v,[],base [] v λm' h1 ph ρ w p hr rp=>?_,kv⟩;rw[ex]at rp;simp only[RepV,RepC,RepD]at rp;obtain⟨B,o',e,rl⟩:=rp;obtain⟨vC,h2,h3⟩:=H (ρ:=ρ) hr rl;exact⟨B,_,vC,e,h2,h3⟩
 ·rename_i b off ex;split at hK
  ·rename_i cs eb;obtain⟨v,kv,H⟩:=Gy hT hK;refine⟨v,[b],base [b] v λm' h1 ph ρ w p hr rp=>?_,kv⟩;rw[ex]at rp;simp only[RepV,RepC]at rp;obtain⟨q,hq,e⟩:=rp;have ho:=hr.own b q hq;rw[h1 b (by simp),eb]at ho;obtain⟨vs,U,g1,g2,g3⟩:=ho;obtain⟨vC,h2,h3⟩:=H (o:=0) g1 (by simpa using g3);exact⟨q.1,off,vC,e,by simpa using h2,h3⟩
  ·exact hK.elim
 ·rename_i s b i off ex;split at hK
  ·rename_i s' es eb;obtain⟨es',hK⟩:=hK;subst es';split at hK
   ·rename_i e he;obtain⟨v,kv,H⟩:=Gy hT hK;refine⟨v,[b],base [b] v λm' h1 ph ρ w p hr rp=>?_,kv⟩;rw[ex]at rp;simp only[RepV,RepC]at rp;obtain⟨q,hq,e⟩:=rp;have ho:=hr.own b q hq;rw[h1 b (by simp),eb]at ho;rcases ho with ho|⟨vs,U,g1,g2,g3,g5,g4⟩
    ·rw[ho.2]at he;simp at he
    ·have:=g4.get he;obtain⟨vC,h2,h3⟩:=H (o:=i*s) g1 this.2;exact⟨q.1,_,vC,e,h2,h3⟩
   ·exact hK.elim
  ·exact hK.elim
 ·rename_i B off ex;split at hK
  ·rename_i ds eb;obtain⟨v,kv,H⟩:=Gy hT hK;refine⟨v,[],baseS [] v λm' h1 ph ρ w p hr hS rp=>?_,kv⟩;rw[ex]at rp;simp only[RepV,RepC,RepD]at rp;obtain⟨vs,U,g1,g2,g3⟩:=jQ.get hS eb;obtain⟨vC,h2,h3⟩:=H (o:=0) (ρ:=ρ) g1 (by simpa using gK.of_D g3);exact⟨B,off,vC,rp,by simpa using h2,h3⟩
  ·exact hK.elim
 ·exact hK.elim
def zfZ{o:Oper}{T:TypeId}{x:MX}{ox:Operand}(ho:o.op=.box T ox)(hx:gN x ox=true){ds:List D}(e:cellsD (X get x)=some ds):gz P o get m [] [] (.c (.d (.rp ds 0))):=by
 refine gz.of_value λm' h1 h2 ph ρ w a hr hg=>?_;have r1:=jF hx (ph:=ph) (ρ:=ρ) (get:=get) (a:=a) λk hk=>hg k (by rw[ho];simp[Op.operands,hk]);obtain⟨vs,e1,e2,e3⟩:=KC r1 e;obtain⟨H,S⟩:=hr.pushP (.cells vs.toArray T);refine⟨_,ρ,{w with heap:=w.heap.push (.cells vs.toArray T)},.pointer (some ⟨w.heap.size,0,none⟩),?_,S,H,fC w,?_⟩
 ·unfold execOp;rw[ho];refine dz (a:=.pointer (some ⟨w.heap.size,0,none⟩)) ?_ (dx _);show fe P (Instr.box T (a.eval ox)) w _ _;unfold Instr.box newVar newRow;rw[e1];exact((fH _).bind (dx _)).bind (dx _)
 ·simp only[RepV,RepC,RepD];refine⟨w.heap.size,0,rfl,?_⟩;have:hcells (upd ph w.heap.size (some (.cells vs.toArray T))) w.heap.size=vs:=by simp[hcells,zae]
  rw[this];exact RepL.mono' S.hle e3
def zfC{o:Oper}{T:TypeId}{x:MX}{ox:Operand}(ho:o.op=.box T ox)(hx:gN x ox=true){cs:List AC}(e:sZ (X get x)=some cs)(hn:m n=.non):
  gz P o get m [] [(n,.box cs)] (.c (.ptr n 0)):=by
 refine gz.of_value λm' h1 h2 ph ρ w a hr hg=>?_;have r1:=jF hx (ph:=ph) (ρ:=ρ) (get:=get) (a:=a) λk hk=>hg k (by rw[ho];simp[Op.operands,hk]);obtain⟨vs,e1,e2,e3⟩:=Cy r1 e;have hn':m' n=.non:=(h2 (n,.box cs) (by simp)).trans hn
 obtain⟨H,S⟩:=hr.pushO (.cells vs.toArray T) hn' vs.length (blk:=.box cs) (by simp)
  ⟨vs,T,Cu _ _,e2,gK.mono (eZ ph) (BO ((hr.dom n).1 hn')) _ _ e3⟩
 refine⟨_,_,{w with heap:=w.heap.push (.cells vs.toArray T)},.pointer (some ⟨w.heap.size,0,none⟩),?_,S,H,fC w,?_⟩
 ·unfold execOp;rw[ho];refine dz (a:=.pointer (some ⟨w.heap.size,0,none⟩)) ?_ (dx _);show fe P (Instr.box T (a.eval ox)) w _ _;unfold Instr.box newVar newRow;rw[e1];exact((fH _).bind (dx _)).bind (dx _)
 ·simp only[RepV,RepC];exact⟨_,zae _ _ _,rfl⟩
def ze8{o:Oper}{T:TypeId}{i:TypeInfo}{z:List D}(ho:o.op=.alloc T)(hi:P.info? T=some i)(hz:i.zero.isSome=true)(hc:vL z (zeroOf i)=true)(hn:m n=.non):
  gz P o get m [] [(n,.box (z.map .d))] (.c (.ptr n 0)):=by
 refine gz.of_value λm' h1 h2 ph ρ w a hr hg=>?_;obtain⟨zv,ez⟩:=bF.1 hz;have e0:zeroOf i=zv.cells.toList:=by simp[zeroOf,ez]
 obtain⟨c1,c2⟩:=BP hc;have hn':m' n=.non:=(h2 (n,.box (z.map .d)) (by simp)).trans hn
 obtain⟨H,S⟩:=hr.pushO (.cells zv.cells T) hn' zv.cells.size (blk:=.box (z.map .d)) (by simp)
  ⟨zv.cells.toList,T,by simp,by rw[<-e0];simpa using c1,gK.of_D (by rw[<-e0];exact c2 _)⟩
 refine⟨_,_,{w with heap:=w.heap.push (.cells zv.cells T)},.pointer (some ⟨w.heap.size,0,none⟩),?_,S,H,fC w,?_⟩
 ·unfold execOp;rw[ho];refine dz (a:=.pointer (some ⟨w.heap.size,0,none⟩)) ?_ (dx _);show fe P (Instr.alloc T true (.tuple #[])) w _ _;unfold Instr.alloc newVar newRow;refine(fE hi ez).bind ?_;exact((fH _).bind (dx _)).bind (dx _)
 ·simp only[RepV,RepC];exact⟨_,zae _ _ _,rfl⟩
def DN{α:Type}:∀(vs cs:List α) (o j:Nat),o+vs.length<=cs.length->(splice cs o vs)[j]?=if o<=j/\j<o+vs.length then vs[j-o]? else cs[j]?
|[],cs,o,j,h=>by simp only[splice,List.length_nil];rw[aA (by omega)]
| v::vs,cs,o,j,h=>by
 simp only[List.length_cons]at h;simp only[splice,List.length_cons];rw[DN vs (cs.set o v) (o+1) j (by simp;omega)];by_cases hj:j=o
 ·subst hj;rw[aA (by omega),aB (by omega)];simp[List.getElem?_set];omega
 ·by_cases h1:o+1<=j/\j<o+1+vs.length
  ·rw[aB h1,aB (by omega)];rw[show j-o=(j-(o+1))+1 from by omega,List.getElem?_cons_succ]
  ·rw[aA h1,aA (by omega),List.getElem?_set_ne (Ne.symm hj)]
def Gz{α:Type}(cs vs:List α)(o:Nat)(h:o+vs.length<=cs.length):splice cs o vs=cs.take o++vs++cs.drop (o+vs.length):=by
 apply bi;intro j;rw[DN vs cs o j h];by_cases h1:j<o
 ·rw[aA (by omega),dI,ay (by simp;omega),dU,aB h1]
 ·by_cases h2:j<o+vs.length
  ·rw[aB ⟨by omega,h2⟩,dI,bC (by simp;omega),ay (by simp;omega)];congr 1;simp;omega
  ·rw[aA (by omega),bC (by simp;omega),bG];congr 1;simp;omega
def put_eq{α:Type}(cs l:List α)(o:Nat)(h:o+l.length<=cs.length):put cs o l=splice cs o l:=by
 unfold put;split
 ·rename_i hh;obtain⟨h1,h2⟩:=hh;subst h1;rw[Gz cs l 0 h];simp[h2]
 ·rfl
def KL{α:Type}(cs l:List α)(o:Nat)(h:o+l.length<=cs.length):(put cs o l).length=cs.length:=by
 rw[put_eq cs l o h,zG]
def gK.splice{ph:PH}{ρ:RM}:∀{l:List AC} {vs:List Value} {cs:List AC} {us:List Value} {o:Nat},gK ph ρ cs us->gK ph ρ l vs->vs.length=l.length->
 gK ph ρ (splice cs o l) (splice us o vs)
|[],[],_,_,_,r,_,_=>by simpa[Abs.splice]using r
|[],_::_,_,_,_,_,_,e=>by simp at e
|_::_,[],_,_,_,_,r,_=>by simp[gK]at r
|c::l,v::vs,cs,us,o,r,r',e=>by
 simp only[gK]at r';simp only[Abs.splice];exact gK.splice (r.set r'.1.1 r'.1.2) r'.2 (by simpa using e)
def zeH{T:TypeId}{i:TypeInfo}{B o:Nat}{us:List Value}{U:TypeId}{w:World}{v:Value}{vs:List Value}(hT:P.info? T=some i)(hv:v.cells=vs.toArray)(hl:vs.length=i.size)
  (hB:w.heap[B]?=some (.cells us.toArray U (0,0))) (hle:o+vs.length<=us.length) (h1:∀x,x∈vs->x.one1=true) (h0:vs≠[]):
  fe P (storeVar T ⟨B,o,none⟩ v) w () (World.cellsAt w B (Abs.splice us o vs) U):=by
 unfold storeVar;refine(fD hT).bind ?_;rw[hv];simp only[List.size_toArray];rw[aA (by simp[hl])];have:=fe.storeCells (P:=P) o vs 0 us w hB (by simpa using hle) h1 h0;simpa using this
def ze9 {o:Oper} {T:TypeId} {i:TypeInfo} {sz:Nat} {x y:MX} {ox oy:Operand} (ho:o.op=.store T ox oy) (hT:P.info? T=some i) (hs:i.size=sz) (h0:0<sz) (hx:gN x ox=true) (hy:gN y oy=true)
  {K:List (Nat × Blk)->Prop} (hK:match X get x,sZ (X get y)with
  |.c (.ptr b off),some l=>match m b with
   |.box cs=>l.length=sz/\off+sz<=cs.length/\K [(b,.box (put cs off l))]
   |_=>False
  |.c (.ept s b i off),some l=>match m b with
   |.arr s' es=>s=s'/\l.length=sz/\off+sz<=s/\(match es[i]? with|some e=>K [(b,.arr s (es.set i (put e off l)))]|none=>False)
   |_=>False
  |_,_=>False):∃wr,gz P o get m [] wr (.c (.d .any))/\K wr:=by
 have base:∀(b:Nat) (blk:Blk) (hl:blk≠.non) (H:∀m':Hp,m' b=m b->∀(h:PH) (ρ:RM) (w:World) (p v:Value),HRel h ρ m' w.heap->RepV h ρ (X get x) p->RepV h ρ (X get y) v->
   ∃q off us U vs,ρ b=some q/\Real (m' b) q/\p=.pointer (some ⟨q.1,off,none⟩)/\w.heap[q.1]?=some (.cells us.toArray U (0,0))/\v.cells=vs.toArray/\vs.length=sz/\off+sz<=us.length/\(∀x,x∈vs->x.one1=true)/\
    zaj h ρ q blk (w.heap.setIfInBounds q.1 (.cells (Abs.splice us off vs).toArray U (0,0)))),gz P o get m [] [(b,blk)] (.c (.d .any)):=by
  intro b blk hl H;refine gz.of_skip λm' h1 h2 ph ρ w a hr hg=>?_;have r1:=jF hx (ph:=ph) (ρ:=ρ) (get:=get) (a:=a) λk hk=>hg k (by rw[ho];simp[Op.operands,hk]);have r2:=jF hy (ph:=ph) (ρ:=ρ) (get:=get) (a:=a) λk hk=>hg k (by rw[ho];simp[Op.operands,hk]);obtain⟨q,off,us,U,vs,e1,e2,e3,e4,e5,e6,e7,e8,e9⟩:=H m' (h2 (b,blk) (by simp)) ph ρ w _ _ hr r1 r2;obtain⟨K,S⟩:=hr.set (.cells (Abs.splice us off vs).toArray U (0,0)) e1 e2 hl e9;refine⟨ph,ρ,World.cellsAt w q.1 (Abs.splice us off vs) U,?_,S,K,fC w⟩;unfold execOp;rw[ho];refine dz (a:=()) ?_ (dx _);show fe P (Instr.storeAt T (a.eval ox) (a.eval oy)) w () _;rw[e3];refine(dx (⟨q.1,off,none⟩:Addr)).bind ?_;exact zeH hT e5 (by rw[e6,hs]) e4 (by omega) e8 (by intro h;rw[h]at e6;simp at e6;omega)
 split at hK
 ·rename_i b off l ex ey;split at hK
  ·rename_i cs eb;obtain⟨k1,k2,kk⟩:=hK;refine⟨_,base b (.box (put cs off l)) (by simp) λm' h1 ph ρ w p v hr rp rv=>?_,kk⟩;rw[ex]at rp;simp only[RepV,RepC]at rp;obtain⟨q,hq,e⟩:=rp;obtain⟨vs,c1,c2,c3⟩:=Cy rv ey;have how:=hr.own b q hq;rw[h1,eb]at how;have hreal:Real (m' b) q:=by rw[h1,eb];trivial
   have hlt:=hr.real_lt hq hreal;obtain⟨us,U,g1,g2,g3⟩:=how;refine⟨q,off,us,U,vs,hq,hreal,e,g1,c1,by omega,by omega,gK.one c3 c2,_,U,Cw _ _ hlt,?_,?_⟩
   ·rw[zG,KL _ _ _ (by omega)];exact g2
   ·rw[put_eq _ _ _ (by omega)];exact gK.splice g3 c3 c2
  ·exact hK.elim
 ·rename_i s b i off l ex ey;split at hK
  ·rename_i s' es eb;obtain⟨k0,k1,k2,hK⟩:=hK;subst k0;split at hK
   ·rename_i e he;refine⟨_,base b (.arr s (es.set i (put e off l))) (by simp) λm' h1 ph ρ w p v hr rp rv=>?_,hK⟩;rw[ex]at rp;simp only[RepV,RepC]at rp;obtain⟨q,hq,e'⟩:=rp;obtain⟨vs,c1,c2,c3⟩:=Cy rv ey;have how:=hr.own b q hq;rw[h1,eb]at how;rcases how with how|⟨us,U,g1,g2,g3,g5,g4⟩
    ·rw[how.2]at he;simp at he
    have hil:i<es.length:=by
     rcases aX i es.length with h|h
     ·exact h
     ·rw[aM h]at he;cases he
    have hreal:Real (m' b) q:=by rw[h1,eb];show 0<q.2;omega
    have hlt:=hr.real_lt hq hreal;have hge:=g4.get he;have htot:(i+1)*s<=q.2*s:=bL s (by omega);have e1:(i+1)*s=i*s+s:=by rw[bD,bY]
    refine⟨q,i*s+off,us,U,vs,hq,hreal,e',g1,c1,by omega,by omega,gK.one c3 c2,.inr ⟨_,U,Cw _ _ hlt,?_,?_,?_,?_⟩⟩
    ·rw[zG];exact g2
    ·simpa using g3
    ·simpa using g5
    ·-- the row of elements with one turned
     have key:∀(es:List (List AC)) (us:List Value) (i:Nat) (e:List AC),gp ph ρ s es us->es[i]?=some e->gp ph ρ s (es.set i (put e off l)) (Abs.splice us (i*s+off) vs):=by
      intro es
      induction es with
      |nil=>intro us i e _ h;simp at h
      | cons f es ih=>
       intro us i e r h;simp only[gp]at r;cases i with
       | zero=>
        simp at h;subst h;simp only[List.set_cons_zero,gp];have hle:=r.2.1.length;have hpe:off+l.length<=f.length:=by omega
        refine⟨by rw[KL _ _ _ hpe];exact r.1,?_,?_⟩
        ·rw[put_eq _ _ _ hpe];have:=gK.splice (o:=off) r.2.1 c3 c2;simpa using this
        ·have:(Abs.splice us (0*s+off) vs).drop s=us.drop s:=by
          apply bi;intro j;rw[bG,bG,DN _ _ _ _ (by omega),aA (by omega)]
         rw[this];exact r.2.2
       | succ i=>
        simp only[List.getElem?_cons_succ]at h;simp only[List.set_cons_succ,gp];have hle:=r.2.1.length;have htot:=r.2.2.total;simp only[List.length_drop]at htot;have hil:i<es.length:=by
         rcases aX i es.length with h'|h'
         ·exact h'
         ·rw[aM h']at h;cases h
        have hm:(i+1)*s<=es.length*s:=bL s (by omega);have e1:(i+1)*s=i*s+s:=by rw[bD,bY]
        have hin:(i+1)*s+off+vs.length<=us.length:=by omega
        refine⟨r.1,?_,?_⟩
        ·have h2:=r.2.1.take;have:(Abs.splice us ((i+1)*s+off) vs).take f.length=us.take f.length:=by
          apply bi;intro j;rw[dU,dU];by_cases hj:j<f.length
          ·rw[aB hj,aB hj,DN _ _ _ _ hin,aA (by omega)]
          ·rw[aA hj,aA hj]
         rw[<-this]at h2;have h3:=h2.more ((Abs.splice us ((i+1)*s+off) vs).drop f.length);rwa[bW]at h3
        ·have:(Abs.splice us ((i+1)*s+off) vs).drop s=Abs.splice (us.drop s) (i*s+off) vs:=by
          apply bi;intro j;rw[bG,DN _ _ _ _ hin,DN _ _ _ _ (by simp;omega),bG];by_cases hj:i*s+off<=j/\j<i*s+off+vs.length
          ·rw[aB (by omega),aB hj];congr 1;omega
          ·rw[aA (by omega),aA hj]
         rw[this];exact ih _ _ _ r.2.2 h
     exact key es us i e g4 he
   ·exact hK.elim
  ·exact hK.elim
 ·exact hK.elim
end
end Go.Abs
namespace Go.Abs
variable [jQ]
section
variable {P:Program} {get:Nat->AV} {m:Hp} {n:Nat}
def KM:∀(vs us:List Value) (off k:Nat),off+k+vs.length<=us.length->
 (vs.toArray.zipIdx k).foldl (λcs (x:Value × Nat)=>cs.setIfInBounds (off+x.2) x.1) us.toArray=(Abs.splice us (off+k) vs).toArray
|[],us,off,k,h=>by rw[<-Array.foldl_toList];simp[Abs.splice,Array.toList_zipIdx]
|v::vs,us,off,k,h=>by
 simp only[List.length_cons]at h;have:=KM vs (us.set (off+k) v) off (k+1) (by simp;omega);simp only[Abs.splice];rw[show off+k+1=off+(k+1)from by omega,<-this];rw[<-Array.foldl_toList,<-Array.foldl_toList];simp[Array.toList_zipIdx,List.zipIdx_cons]
def HY{ph:PH}{ρ:RM}{a:Act}{pl pl':Nat->Option (Nat × Nat)}(hpl:∀i x,pl i=some x->pl' i=some x):∀{ps:List (Nat × Nat × MX)} {os:List (Nat × Operand)} {cs cs':List AC} {us:List Value},
 BR P pl ps os=true->(∀k,Operand.tmp k∈os.map (·.2)->RepV ph ρ (get k) (a.tmps.getD k undef))->zJ get cs ps=some cs'->gK ph ρ cs us->us.length=cs.length->
 ∃us',Instr.fill pl' us.toArray (os.map λx=>(x.1,a.eval x.2))=some us'.toArray/\us'.length=cs'.length/\gK ph ρ cs' us'
|[],[],cs,cs',us,h,hg,hf,r,hl=>by
 simp only[zJ]at hf;cases hf;exact⟨us,rfl,hl,r⟩
|[],_::_,_,_,_,h,_,_,_,_=>by simp[BR]at h
|(off,sz,x)::ps,[],_,_,_,h,_,_,_,_=>by simp[BR]at h
| (off,sz,x)::ps,(i,o)::os,cs,cs',us,h,hg,hf,r,hl=>by
 simp only[BR,aC,aV]at h;obtain⟨⟨h1,h2⟩,h3⟩:=h;simp only[zJ]at hf;split at hf
 ·rename_i l hc;split at hf
  ·rename_i hh;obtain⟨g1,g2⟩:=hh;have rv:=jF h2 (ph:=ph) (ρ:=ρ) (get:=get) (a:=a) λk hk=>hg k (by simp[hk]);obtain⟨vs,c1,c2,c3⟩:=Cy rv hc;have hle:off+vs.length<=us.length:=by omega
   obtain⟨us',e1,e2,e3⟩:=HY hpl (us:=Abs.splice us off vs) h3 (λk hk=>hg k (by simp at hk⊢;exact .inr hk)) hf
    (by rw[put_eq _ _ _ (by omega)];exact gK.splice r c3 c2) (by rw[zG,KL _ _ _ (by omega),hl])
   refine⟨us',?_,e2,e3⟩;simp only[List.map_cons,Instr.fill,hpl _ _ h1];rw[c1];simp only[List.size_toArray];rw[aA (by simp;omega)];have:=KM vs us off 0 (by omega);simp only[Nat.add_zero]at this;rw[this];exact e1
  ·cases hf
 ·cases hf
def fe.mapM{α β:Type}{w:World}{f:α->Sem β}{g:α->β}:∀(xs:List α),(∀x,x∈xs->fe P (f x) w (g x) w)->fe P (xs.mapM f) w (xs.map g) w
|[],_=>by simp only[List.mapM_nil];exact dx _
|x::xs,h=>by
 rw[List.mapM_cons];exact(h x (by simp)).bind ((fe.mapM xs λy hy=>h y (by simp[hy])).bind (dx _))
def fe.mapMA{α β:Type}{w:World}{f:α->Sem β}{g:α->β}(xs:Array α)(h:∀x,x∈xs.toList->fe P (f x) w (g x) w):fe P (xs.mapM f) w (xs.map g) w:=by
 rw[cO];have:=(fe.mapM xs.toList h).map (f:=List.toArray);have e:(xs.toList.map g).toArray=xs.map g:=by apply cu;simp
 rw[e]at this;exact this
def zeS {o:Oper} {T:TypeId} {os:Array (Nat × Operand)} {z:List D} {ps:List (Nat × Nat × MX)} (ho:o.op=.build T os) (hc:gY P (.build z ps) (.build T os)=true) {cs:List AC}
  (e:zJ get (z.map .d) ps=some cs):gz P o get m [] [] (.ag cs):=by
 refine gz.of_pure λm' h1 ph ρ w a hr hg=>?_;have hg':∀k,Operand.tmp k∈os.toList.map (·.2)->RepV ph ρ (get k) (a.tmps.getD k undef):=λk hk=>hg k (by rw[ho];simpa[Op.operands]using hk);simp only[gY]at hc;split at hc
 ·rename_i i fs hi hu;simp only[aC]at hc;obtain⟨⟨⟨h2,h3⟩,h4⟩,h5⟩:=hc;obtain⟨zv,ez⟩:=bF.1 h2;have e0:zeroOf i=zv.cells.toList:=by simp[zeroOf,ez]
  rw[e0]at h3;obtain⟨c1,c2⟩:=BP h3;obtain⟨us',f1,f2,f3⟩:=HY (P:=P) (pl':=BU P fs) (λ_ _ h=>h) h5 hg' e (us:=zv.cells.toList) (gK.of_D (c2 ph)) (by simpa using c1);refine⟨.agg us'.toArray,?_,by simp only[RepV];exact⟨us',rfl,f2,f3⟩⟩;unfold execOp;rw[ho];refine dz (a:=.agg us'.toArray) ?_ (dx _);show fe P (Instr.build T (os.map λx=>(x.1,a.eval x.2))) w _ w;unfold Instr.build;refine(fE hi ez).bind ((eT hu).bind ?_);have hpl:fe P (fs.mapM λf=>do pure (f.offset,<-sizeOf f.type)) w (fs.map λ(f:Field)=>(f.offset,((P.info? f.type).map (·.size)).getD 0)) w:=by
   refine fe.mapMA fs λf hf=>?_;have:=aZ.1 h4 f hf;obtain⟨j,hj⟩:=bF.1 this;rw[hj];exact(fD hj).bind (dx _)
  refine hpl.bind ?_;have hpl':(λx:Nat=>(fs.map λ(f:Field)=>(f.offset,((P.info? f.type).map (·.size)).getD 0))[x]?)=λx:Nat=>(fs[x]?).map λ(f:Field)=>(f.offset,((P.info? f.type).map (·.size)).getD 0):=by
   funext x;simp
  obtain⟨us2,f1',f2',f3'⟩:=HY (P:=P) (pl':=λx:Nat=>(fs.map λ(f:Field)=>(f.offset,((P.info? f.type).map (·.size)).getD 0))[x]?) (pl:=BU P fs)
   (λj x hx=>by
    rw[congrFun hpl' j];unfold BU at hx;split at hx
    ·rename_i f hf;simp only[aJ]at hx;obtain⟨t,ht,hx⟩:=hx;simp[hf,ht,hx]
    ·cases hx) h5 hg' e (us:=zv.cells.toList) (gK.of_D (c2 ph)) (by simpa using c1)
  have e3:us2=us':=by
   have key:∀(l:List (Nat × Value)) (c c1 c2:Array Value),Instr.fill (BU P fs) c l=some c1->Instr.fill (λx:Nat=>(fs.map λ(f:Field)=>(f.offset,((P.info? f.type).map (·.size)).getD 0))[x]?) c l=some c2->c1=c2:=by
    intro l
    induction l with
    |nil=>intro c c1 c2 h h';simp only[Instr.fill]at h h';cases h;cases h';rfl
    | cons y l ih=>
     obtain⟨j,v⟩:=y;intro c c1 c2 h h';simp only[Instr.fill]at h h';cases hs:BU P fs j with
     |none=>rw[hs]at h;cases h
     | some x=>
      have:(fs.map λ(f:Field)=>(f.offset,((P.info? f.type).map (·.size)).getD 0))[j]?=some x:=by
       rw[congrFun hpl' j];unfold BU at hs;split at hs
       ·rename_i f hf;simp only[aJ]at hs;obtain⟨t,ht,hx⟩:=hs;simp[hf,ht,hx]
       ·cases hs
      rw[hs]at h;rw[this]at h';simp only at h h';split at h
      ·cases h
      ·rename_i hh;rw[aA hh]at h';exact ih _ _ _ h h'
   have:=key _ _ _ _ f1 f1';simpa using this.symm
  rw[e3]at f1';rw[show(os.map λx=>(x.1,a.eval x.2)).toList=os.toList.map λx=>(x.1,a.eval x.2)from by simp];rw[show zv.cells=zv.cells.toList.toArray from by simp,f1'];exact dx _
 ·rename_i i n' e' hi hu;split at hc
  ·rename_i j hj;simp only[aC]at hc;obtain⟨⟨h2,h3⟩,h5⟩:=hc;obtain⟨zv,ez⟩:=bF.1 h2;have e0:zeroOf i=zv.cells.toList:=by simp[zeroOf,ez]
   rw[e0]at h3;obtain⟨c1,c2⟩:=BP h3;obtain⟨us',f1,f2,f3⟩:=HY (P:=P) (pl':=λk=>some (k*j.size,j.size)) (λ_ _ h=>h) h5 hg' e (us:=zv.cells.toList) (gK.of_D (c2 ph)) (by simpa using c1);refine⟨.agg us'.toArray,?_,by simp only[RepV];exact⟨us',rfl,f2,f3⟩⟩;unfold execOp;rw[ho];refine dz (a:=.agg us'.toArray) ?_ (dx _);show fe P (Instr.build T (os.map λx=>(x.1,a.eval x.2))) w _ w;unfold Instr.build;refine(fE hi ez).bind ((eT hu).bind ((fD hj).bind ?_));rw[show(os.map λx=>(x.1,a.eval x.2)).toList=os.toList.map λx=>(x.1,a.eval x.2)from by simp];rw[show zv.cells=zv.cells.toList.toArray from by simp,f1];exact dx _
  ·cases hc
 ·cases hc
end
end Go.Abs
namespace Go.Abs
variable [jQ]
section
variable {P:Program} {get:Nat->AV} {m:Hp} {n:Nat}
def KN{ph:PH}{ρ:RM}{a:Act}{s:Nat}:∀{xs:List MX} {os:List (Nat × Operand)} {es:List (List AC)} {k:Nat} {us:List Value},
 BS xs k os=true->(∀j,Operand.tmp j∈os.map (·.2)->RepV ph ρ (get j) (a.tmps.getD j undef))->p9 get s xs=some es->us.length=(k+xs.length)*s->
 ∃vs:List Value,Instr.fill (λi=>some (i*s,s)) us.toArray (os.map λx=>(x.1,a.eval x.2))=some (us.take (k*s)++vs).toArray/\vs.length=xs.length*s/\gp ph ρ s es vs/\es.length=xs.length
|[],[],es,k,us,h,hg,he,hl=>by
 simp only[p9]at he;cases he;refine⟨[],?_,by simp,by simp[gp],rfl⟩;simp only[List.map_nil,Instr.fill];rw[aH (by simp at hl;omega)];simp
|[],_::_,_,_,_,h,_,_,_=>by simp[BS]at h
|_::_,[],_,_,_,h,_,_,_=>by simp[BS]at h
| x ::xs,(i,o)::os,es,k,us,h,hg,he,hl=>by
 simp only[BS,aC,aV]at h;obtain⟨⟨h1,h2⟩,h3⟩:=h;subst h1;simp only[p9]at he;split at he
 ·rename_i l r hc hr;split at he
  ·rename_i hs;cases he;have rv:=jF h2 (ph:=ph) (ρ:=ρ) (get:=get) (a:=a) λk hk=>hg k (by simp[hk]);obtain⟨ws,c1,c2,c3⟩:=Cy rv hc;simp only[List.length_cons]at hl;have e1:(i+(xs.length+1))*s=i*s+s+xs.length*s:=by rw[bD,bD,bY];omega
   have hle:i*s+ws.length<=us.length:=by omega
   obtain⟨vs,f1,f2,f3,f4⟩:=KN (us:=Abs.splice us (i*s) ws) h3 (λk hk=>hg k (by simp at hk⊢;exact .inr hk)) hr (by
    rw[zG,hl];congr 1;omega)
   refine⟨ws++vs,?_,?_,?_,?_⟩
   ·simp only[List.map_cons,Instr.fill];rw[c1];simp only[List.size_toArray];rw[aA (by simp;omega)];have:=KM ws us (i*s) 0 (by omega);simp only[Nat.add_zero]at this;rw[this,f1];have e2:(i+1)*s=i*s+s:=by rw[bD,bY]
    rw[e2,Gz _ _ _ hle];congr 2;rw[<-dI];congr 1;rw[List.take_append_of_le_length (by simp;omega)];rw[aH (by simp;omega)]
   ·simp only[aR,List.length_cons];rw[f2,bD,bY];omega
   ·simp only[gp];refine⟨hs,c3.more vs,?_⟩;rw[dE (by omega),List.drop_of_length_le (by omega)];simpa using f3
   ·simp[f4]
  ·cases he
 ·cases he
def Q7{s:Nat}:∀{xs:List MX} {es:List (List D)},si get s xs=some es->p9 get s xs=some (es.map (·.map .d))
|[],es,h=>by simp only[si]at h;cases h;rfl
| x ::xs,es,h=>by
 simp only[si]at h;split at h
 ·rename_i l r h1 h2;split at h
  ·rename_i hs;cases h;simp only[p9];unfold cellsD at h1;cases hc:sZ (X get x)with
   |none=>rw[hc]at h1;cases h1
   |some cs=>
    rw[hc]at h1;have:=AY h1;subst this;rw[Q7 h2];simp[hs]
  ·cases h
 ·cases h
def Q8{T:TypeId}{len:Nat}{os:Array (Nat × Operand)}{e:TypeId}{i:TypeInfo}{s:Nat}{w:World}{a:Act}(hu:P.underlying T=some (.slice e))(hi:P.info? e=some i)(hs:i.size=s)
  (hz:i.zero.isSome=true) (hlen:len*s<=16777216):
  ∃us:List Value,us.length=len*s/\∀vs:List Value,Instr.fill (λi=>some (i*s,s)) us.toArray (os.toList.map λx=>(x.1,a.eval x.2))=some vs.toArray->
   fe P (Instr.buildSlice T len (os.map λx=>(x.1,a.eval x.2))) w (.slice (some ⟨w.heap.size,0,none⟩) len len) {w with heap:=w.heap.push (.cells vs.toArray e)}:=by
 obtain⟨zv,ez⟩:=bF.1 hz
 have last:∀(msg:String) (zs:Array Value) (vs:List Value),Instr.fill (λi=>some (i*s,s)) ((Array.range (len*s)).map (zs[· %zs.size]!)) (os.toList.map λx=>(x.1,a.eval x.2))=some vs.toArray->
   fe P (match Instr.fill (λi=>some (i*s,s)) ((Array.range (len*s)).map (zs[· %zs.size]!)) ((os.map λx=>(x.1,a.eval x.2)).toList)with
    |some cells=>do
     let r<-newRow e cells
     Pure.pure (Value.slice (some r) len len)
    |_=>stuck msg) w (.slice (some ⟨w.heap.size,0,none⟩) len len) {w with heap:=w.heap.push (.cells vs.toArray e)}:=by
  intro msg zs vs hf;rw[show(os.map λx=>(x.1,a.eval x.2)).toList=os.toList.map λx=>(x.1,a.eval x.2)from by simp];rw[hf];unfold newRow;exact((fH _).bind (dx _)).bind (dx _)
 by_cases h0:len*s=0
 ·refine⟨((Array.range (len*s)).map (λx=>(#[]:Array Value)[x%(#[]:Array Value).size]!)).toList,by simp,λvs hf=>?_⟩;unfold Instr.buildSlice;refine(eT hu).bind ((fD hi).bind ?_);rw[hs];rw[aA (by omega)];dsimp only;rw[aB h0];refine(dx _).bind ?_;rw[bE]at hf;exact last _ #[] vs hf
 ·refine⟨((Array.range (len*s)).map (λx=>zv.cells[x%zv.cells.size]!)).toList,by simp,λvs hf=>?_⟩;unfold Instr.buildSlice;refine(eT hu).bind ((fD hi).bind ?_);rw[hs];rw[aA (by omega)];dsimp only;rw[aA h0];refine(fE hi ez).bind ((dx _).bind ?_);rw[bE]at hf;exact last _ zv.cells vs hf
def DR{T:TypeId}{i:TypeInfo}(h:xQ P T=some i):∃e,P.underlying T=some (.slice e)/\P.info? e=some i:=by
 unfold xQ at h;split at h
 ·rename_i e he;exact⟨e,he,h⟩
 ·cases h
def zea{o:Oper}{T:TypeId}{len:Nat}{os:Array (Nat × Operand)}{s:Nat}{xs:List MX}(ho:o.op=.buildSlice T len os)(hc:gY P (.buildSl s xs) (.buildSlice T len os)=true){es:List (List D)}
  (e:si get s xs=some es):gz P o get m [] [] (.c (.d (.sl true s es))):=by
 refine gz.of_value λm' h1 h2 ph ρ w a hr hg=>?_;have hg':∀k,Operand.tmp k∈os.toList.map (·.2)->RepV ph ρ (get k) (a.tmps.getD k undef):=λk hk=>hg k (by rw[ho];simpa[Op.operands]using hk);simp only[gY]at hc;split at hc
 ·rename_i i hi;simp only[aC,aV,aI]at hc;obtain⟨⟨⟨⟨⟨⟨c1,c2⟩,c3⟩,c4⟩,c5⟩,c7⟩,c6⟩:=hc;obtain⟨et,hu,hi'⟩:=DR hi;obtain⟨us,hus,hrun⟩:=Q8 (os:=os) (w:=w) (a:=a) hu hi' c1 c2 c5;obtain⟨vs,f1,f2,f3,f4⟩:=KN (us:=us) c6 hg' (Q7 e) (by rw[hus,<-c4];simp);simp only[bR,List.take_zero,List.nil_append,ah]at f1 f4;obtain⟨H,S⟩:=hr.pushP (.cells vs.toArray et);refine⟨_,ρ,{w with heap:=w.heap.push (.cells vs.toArray et)},.slice (some ⟨w.heap.size,0,none⟩) len len,?_,S,H,fC w,?_⟩
  ·unfold execOp;rw[ho];refine dz ?_ (dx _);exact hrun vs f1
  ·simp only[RepV,RepC,RepD];have hlen:es.length=len:=by omega
   refine⟨some ⟨w.heap.size,0,none⟩,len,by rw[hlen],by omega,λ_=>hlen.symm,?_,λh=>(by cases h),λp hp _=>(by cases hp;rfl),?_⟩
   ·unfold zao;omega
   ·have e4:cellsAt (upd ph w.heap.size (some (.cells vs.toArray et))) (some ⟨w.heap.size,0,none⟩)=vs:=by simp[cellsAt,hcells,zae]
    rw[e4];have:=gp.mono S.hle (fA ρ) _ _ f3;exact gp.to_E this
 ·cases hc
def zd2{o:Oper}{T:TypeId}{len:Nat}{os:Array (Nat × Operand)}{s:Nat}{xs:List MX}(ho:o.op=.buildSlice T len os)(hc:gY P (.buildSlM s xs) (.buildSlice T len os)=true){es:List (List AC)}
  (e:p9 get s xs=some es) (hn:m n=.non):gz P o get m [] [(n,.arr s es)] (.c (.msl s n 0 xs.length)):=by
 refine gz.of_value λm' h1 h2 ph ρ w a hr hg=>?_;have hg':∀k,Operand.tmp k∈os.toList.map (·.2)->RepV ph ρ (get k) (a.tmps.getD k undef):=λk hk=>hg k (by rw[ho];simpa[Op.operands]using hk);have hn':m' n=.non:=(h2 (n,.arr s es) (by simp)).trans hn;simp only[gY]at hc;split at hc
 ·rename_i i hi;simp only[aC,aV,aI]at hc;obtain⟨⟨⟨⟨⟨⟨c1,c2⟩,c3⟩,c4⟩,c5⟩,c7⟩,c6⟩:=hc;obtain⟨et,hu,hi'⟩:=DR hi;obtain⟨us,hus,hrun⟩:=Q8 (os:=os) (w:=w) (a:=a) hu hi' c1 c2 c5;obtain⟨vs,f1,f2,f3,f4⟩:=KN (us:=us) c6 hg' e (by rw[hus,<-c4];simp);simp only[bR,List.take_zero,List.nil_append]at f1 f4
  obtain⟨H,S⟩:=hr.pushO (.cells vs.toArray et) hn' len (blk:=.arr s es) (by simp)
   (.inr ⟨vs,et,Cu _ _,by rw[f2,c4],by omega,by unfold zao;omega,gp.mono (eZ ph) (BO ((hr.dom n).1 hn')) _ _ f3⟩)
  refine⟨_,_,{w with heap:=w.heap.push (.cells vs.toArray et)},.slice (some ⟨w.heap.size,0,none⟩) len len,?_,S,H,fC w,?_⟩
  ·unfold execOp;rw[ho];refine dz ?_ (dx _);exact hrun vs f1
  ·simp only[RepV,RepC];refine⟨_,some ⟨w.heap.size,0,none⟩,zae _ _ _,by rw[c4];rfl,by rw[c4];simp,λ_=>by simp,λq hq _=>by cases hq;rfl⟩
 ·cases hc
def zfb{o:Oper}{T:TypeId}{f off:Nat}{x:MX}{ox:Operand}(ho:o.op=.fieldAddr T ox f)(hc:gY P (.faddr off x) (.fieldAddr T ox f)=true){K:AV->Prop}
  (hK:match X get x with
  |.c (.ptr b o)=>K (.c (.ptr b (o+off)))
  |.c (.ept s b i o)=>K (.c (.ept s b i (o+off)))
  |.c (.d (.rp cs o))=>K (.c (.d (.rp cs (o+off))))
  |.c (.d (.sc (.pointer (some ⟨B,o,none⟩))))=>K (.c (.d (.sc (.pointer (some ⟨B,o+off,none⟩)))))
  |_=>False):∃v,gz P o get m [] [] v/\K v:=by
 simp only[gY,aC]at hc;obtain⟨c0,hx⟩:=hc;split at c0
 ·rename_i off' U i hf;simp only[aC,aV,bne_iff_ne]at c0;obtain⟨c1,c2⟩:=c0;subst c1;unfold QW at hf;split at hf
  ·rename_i fs hu;split at hf
   ·rename_i fd hfd;simp only[aJ]at hf;obtain⟨t,ht,hf⟩:=hf;injection hf with h1 h2
    injection h2 with h2 h3
    subst h1 h3;have base:∀(v:AV) (H:∀(h:PH) (ρ:RM) (p:Value),RepV h ρ (X get x) p->∃B q,p=.pointer (some ⟨B,q,none⟩)/\RepV h ρ v (.pointer (some ⟨B,q+fd.offset,none⟩))),gz P o get m [] [] v:=by
     intro v H;refine gz.of_pure λm' h1 ph ρ w a hr hg=>?_;have r1:=jF hx (ph:=ph) (ρ:=ρ) (get:=get) (a:=a) λk hk=>hg k (by rw[ho];simp[Op.operands,hk]);obtain⟨B,q,e,rv⟩:=H ph ρ _ r1;refine⟨_,?_,rv⟩;unfold execOp;rw[ho];refine dz ?_ (dx _);show fe P (Instr.fieldAt T (a.eval ox) f) w _ w;rw[e];unfold Instr.fieldAt;refine(eT hu).bind ?_;simp only[hfd];refine(dx (⟨B,q,none⟩:Addr)).bind ?_;unfold fieldPlace;refine dz (a:=(⟨B,q+fd.offset,none⟩:Addr)) ?_ (dx _);refine(fD ht).bind ?_;rw[aA c2,addr_add];exact dx _
    split at hK
    ·rename_i b q ex;refine⟨_,base _ λh ρ p rp=>?_,hK⟩;rw[ex]at rp;simp only[RepV,RepC]at rp⊢;obtain⟨y,h1,h2⟩:=rp;exact⟨y.1,q,h2,y,h1,rfl⟩
    ·rename_i s b i' q ex;refine⟨_,base _ λh ρ p rp=>?_,hK⟩;rw[ex]at rp;simp only[RepV,RepC]at rp⊢;obtain⟨y,h1,h2⟩:=rp;exact⟨y.1,_,h2,y,h1,by rw[Nat.add_assoc]⟩
    ·rename_i cs q ex;refine⟨_,base _ λh ρ p rp=>?_,hK⟩;rw[ex]at rp;simp only[RepV,RepC,RepD]at rp⊢;obtain⟨B,y,h1,h2⟩:=rp;exact⟨B,_,h1,B,y,by rw[Nat.add_assoc],h2⟩
    ·rename_i B q ex;refine⟨_,base _ λh ρ p rp=>?_,hK⟩;rw[ex]at rp;simp only[RepV,RepC,RepD]at rp⊢;exact⟨B,q,rp,rfl⟩
    ·exact hK.elim
   ·cases hf
  ·cases hf
 ·cases c0
def zgd{T:TypeId}{n:Nat}{i:TypeInfo}(h:KF P T=some (n,i)):∃e,P.underlying T=some (.array n e)/\P.info? e=some i:=by
 unfold KF at h;split at h
 ·rename_i n' e he;simp only[aJ]at h;obtain⟨t,ht,h⟩:=h;cases h;exact⟨e,he,ht⟩
 ·cases h
def zeI{o:Oper}{T:TypeId}{s:Nat}{x i:MX}{ox oi:Operand}(ho:o.op=.indexAddr T ox oi)(hc:gY P (.iaddrS s x i) (.indexAddr T ox oi)=true){K:AV->Prop}
  (hK:match X get x,X get i with
  |.c (.d (.sl _ s' es)),.c (.d (.int _ j))=>s=s'/\0<=j/\(match es[j.toNat]? with|some e=>K (.c (.d (.rp e 0)))|none=>False)
  |.c (.msl s' b off len),.c (.d (.int _ j))=>s=s'/\0<=j/\j<len/\K (.c (.ept s b (off+j.toNat) 0))
  |.c (.d (.sc (.slice (some ⟨B,q,none⟩) len _))),.c (.d (.int _ j))=>0<=j/\j<len/\K (.c (.d (.sc (.pointer (some ⟨B,q+j.toNat*s,none⟩)))))
  |_,_=>False):∃v,gz P o get m [] [] v/\K v:=by
 simp only[gY,aC]at hc;obtain⟨⟨c0,hx⟩,hi⟩:=hc;split at c0
 ·rename_i e he;simp only[aV]at c0;obtain⟨et,hu,hei⟩:=DR he
  have base:∀(v:AV) (j:Int) (k:IntKind) (ei:X get i=.c (.d (.int k j))) (hj:0<=j)
    (H:∀(h:PH) (ρ:RM) (p:Value),RepV h ρ (X get x) p->∃B q len cap,p=.slice (some ⟨B,q,none⟩) len cap/\j<(len:Int)/\RepV h ρ v (.pointer (some ⟨B,q+j.toNat*s,none⟩))),gz P o get m [] [] v:=by
   intro v j k ei hj H;refine gz.of_pure λm' h1 ph ρ w a hr hg=>?_;have r1:=jF hx (ph:=ph) (ρ:=ρ) (get:=get) (a:=a) λk hk=>hg k (by rw[ho];simp[Op.operands,hk]);have r2:=jF hi (ph:=ph) (ρ:=ρ) (get:=get) (a:=a) λk hk=>hg k (by rw[ho];simp[Op.operands,hk]);rw[ei]at r2;simp only[RepV,RepC,RepD]at r2;obtain⟨B,q,len,cap,e1,e2,rv⟩:=H ph ρ _ r1;refine⟨_,?_,rv⟩;unfold execOp;rw[ho];refine dz ?_ (dx _);show fe P (Instr.indexAt T (a.eval ox) (a.eval oi)) w _ w;rw[e1,r2.1];unfold Instr.indexAt;refine(dx (k,j)).bind ((eT hu).bind ?_);refine(dx (some (⟨B,q,none⟩:Addr),len,et)).bind ?_;refine(eT hu).bind ?_;simp only;rw[aB ⟨hj,e2⟩];refine(fD hei).bind ?_;rw[addr_add,c0];exact dx _
  split at hK
  ·rename_i fl s' es k j ex ei;obtain⟨k1,k2,hK⟩:=hK;subst k1;split at hK
   ·rename_i e0 he0;refine⟨_,base _ j k ei k2 λh ρ p rp=>?_,hK⟩;rw[ex]at rp;simp only[RepV,RepC,RepD]at rp⊢;obtain⟨a,cap,r1,r2,r3,r4,r5,r6,r7⟩:=rp;have hjl:j.toNat<es.length:=by
     rcases aX j.toNat es.length with h|h
     ·exact h
     ·rw[aM h]at he0;cases he0
    cases a with
    |none=>have:=(r5 rfl).1;subst this;simp at hjl
    |some q=>
     obtain⟨B,off,spot⟩:=q;have:=r6 _ rfl (by omega);simp only at this;subst this;have hg:=r7.get he0;refine⟨B,off,es.length,cap,r1,by omega,B,off+j.toNat*s,by simp,?_⟩;simp only[cellsAt]at hg;rw[bO]at hg;exact hg.2
   ·exact hK.elim
  ·rename_i s' b off len k j ex ei;obtain⟨k1,k2,k3,hK⟩:=hK;subst k1;refine⟨_,base _ j k ei k2 λh ρ p rp=>?_,hK⟩;rw[ex]at rp;simp only[RepV,RepC]at rp⊢;obtain⟨p',a,r1,r2,r3,r4,_⟩:=rp;have ha:=r4 (by omega);subst ha;refine⟨p'.1,off*s,len,p'.2-off,r2,k3,p',r1,?_⟩;rw[bD,Nat.add_zero]
  ·rename_i B q len cap k j ex ei;obtain⟨k2,k3,hK⟩:=hK;refine⟨_,base _ j k ei k2 λh ρ p rp=>?_,hK⟩;rw[ex]at rp;simp only[RepV,RepC,RepD]at rp⊢;exact⟨B,q,len,cap,rp,k3,rfl⟩
  ·exact hK.elim
 ·cases c0
def zeJ{o:Oper}{T:TypeId}{len s:Nat}{x i:MX}{ox oi:Operand}(ho:o.op=.indexAddr T ox oi)(hc:gY P (.iaddrA len s x i) (.indexAddr T ox oi)=true){K:AV->Prop}
  (hK:match X get x,X get i with
  |.c (.ptr b o),.c (.d (.int _ j))=>0<=j/\j<len/\K (.c (.ptr b (o+j.toNat*s)))
  |.c (.ept s' b i' o),.c (.d (.int _ j))=>0<=j/\j<len/\K (.c (.ept s' b i' (o+j.toNat*s)))
  |.c (.d (.rp cs o)),.c (.d (.int _ j))=>0<=j/\j<len/\K (.c (.d (.rp cs (o+j.toNat*s))))
  |_,_=>False):∃v,gz P o get m [] [] v/\K v:=by
 simp only[gY,aC]at hc;obtain⟨⟨c0,hx⟩,hi⟩:=hc;split at c0
 ·rename_i n' e he;simp only[aC,aV]at c0;obtain⟨c1,c2⟩:=c0;subst c1;obtain⟨et,hu,hei⟩:=zgd he
  have base:∀(v:AV) (j:Int) (k:IntKind) (ei:X get i=.c (.d (.int k j))) (hj:0<=j) (hj':j<n')
    (H:∀(h:PH) (ρ:RM) (p:Value),RepV h ρ (X get x) p->∃B q,p=.pointer (some ⟨B,q,none⟩)/\RepV h ρ v (.pointer (some ⟨B,q+j.toNat*s,none⟩))),gz P o get m [] [] v:=by
   intro v j k ei hj hj' H;refine gz.of_pure λm' h1 ph ρ w a hr hg=>?_;have r1:=jF hx (ph:=ph) (ρ:=ρ) (get:=get) (a:=a) λk hk=>hg k (by rw[ho];simp[Op.operands,hk]);have r2:=jF hi (ph:=ph) (ρ:=ρ) (get:=get) (a:=a) λk hk=>hg k (by rw[ho];simp[Op.operands,hk]);rw[ei]at r2;simp only[RepV,RepC,RepD]at r2;obtain⟨B,q,e1,rv⟩:=H ph ρ _ r1;refine⟨_,?_,rv⟩;unfold execOp;rw[ho];refine dz ?_ (dx _);show fe P (Instr.indexAt T (a.eval ox) (a.eval oi)) w _ w;rw[e1,r2.1];unfold Instr.indexAt;refine(dx (k,j)).bind ((eT hu).bind ?_);refine dz (a:=(some (⟨B,q,none⟩:Addr),n',et)) (w':=w) ?_ ?_
   ·exact dx _
   refine(eT hu).bind ?_;simp only;rw[aB ⟨hj,hj'⟩];refine(fD hei).bind ?_;rw[addr_add,c2];exact dx _
  split at hK
  ·rename_i b q k j ex ei;obtain⟨k1,k2,hK⟩:=hK;refine⟨_,base _ j k ei k1 k2 λh ρ p rp=>?_,hK⟩;rw[ex]at rp;simp only[RepV,RepC]at rp⊢;obtain⟨y,h1,h2⟩:=rp;exact⟨y.1,q,h2,y,h1,rfl⟩
  ·rename_i s' b i' q k j ex ei;obtain⟨k1,k2,hK⟩:=hK;refine⟨_,base _ j k ei k1 k2 λh ρ p rp=>?_,hK⟩;rw[ex]at rp;simp only[RepV,RepC]at rp⊢;obtain⟨y,h1,h2⟩:=rp;exact⟨y.1,_,h2,y,h1,by rw[Nat.add_assoc]⟩
  ·rename_i cs q k j ex ei;obtain⟨k1,k2,hK⟩:=hK;refine⟨_,base _ j k ei k1 k2 λh ρ p rp=>?_,hK⟩;rw[ex]at rp;simp only[RepV,RepC,RepD]at rp⊢;obtain⟨B,y,h1,h2⟩:=rp;exact⟨B,_,h1,B,y,by rw[Nat.add_assoc],h2⟩
  ·exact hK.elim
 ·cases c0
def zfD{o:Oper}{T:TypeId}{x i:MX}{ox oi:Operand}(ho:o.op=.index T ox oi)(hc:gY P (.idxS x i) (.index T ox oi)=true){t:di}{k:IntKind}{j:Int}{b:UInt8}
  (ex:X get x=.c (.d (.str t))) (ei:X get i=.c (.d (.int k j))) (hj:0<=j) (hb:t.data.toList[j.toNat]?=some b):gz P o get m [] [] (.c (.d (.int .u8 b.toNat))):=by
 simp only[gY,aC]at hc;obtain⟨⟨c0,hx⟩,hi⟩:=hc;split at c0
 ·rename_i hu;refine gz.of_pure λm' h1 ph ρ w a hr hg=>?_;have r1:=jF hx (ph:=ph) (ρ:=ρ) (get:=get) (a:=a) λk hk=>hg k (by rw[ho];simp[Op.operands,hk]);have r2:=jF hi (ph:=ph) (ρ:=ρ) (get:=get) (a:=a) λk hk=>hg k (by rw[ho];simp[Op.operands,hk]);rw[ei]at r2;rw[ex]at r1;simp only[RepV,RepC,RepD]at r1 r2;refine⟨.int .u8 b.toNat,?_,?_⟩
  ·unfold execOp;rw[ho];refine dz ?_ (dx _);show fe P (Instr.index T (a.eval ox) (a.eval oi)) w _ w;rw[r1.1,r2.1];unfold Instr.index;refine(dx (k,j)).bind ((eT hu).bind ?_);simp only;rw[aB hj];have hb':t[j.toNat]?=some b:=by
    rw[<-hb];show(if h:_ then _ else _)=_;by_cases h:j.toNat<t.size
    ·have:j.toNat<t.data.size:=h;simp[h,this,bH];rfl
    ·have h2:¬j.toNat<t.data.size:=h;simp[h,h2]
   rw[hb'];exact dx _
  ·simp only[RepV,RepC,RepD];have:=b.toNat_lt;refine⟨trivial,by simp[IntKind.min,IntKind.signed],?_⟩;simp only[IntKind.max,IntKind.signed,IntKind.bits];simp;omega
 ·cases c0
end
end Go.Abs
namespace Go.Abs
variable [jQ]
def Q9(n:Nat):∀(r c:Nat),Builtin.growBy n r c<=max c (n+(n+768)/4)
|0,c=>by simp only[Builtin.growBy];omega
| r+1,c=>by
 simp only[Builtin.growBy];split
 ·omega
 ·have:=Q9 n r (c+(c+768)/4);have h2:c+(c+768)/4<=n+(n+768)/4:=by omega
  omega
def nextslicecap_le{n c:Nat}(h:c<n):Builtin.nextslicecap n c<=2*n+400:=by
 unfold Builtin.nextslicecap;split
 ·omega
 ·split
  ·omega
  ·have:=Q9 n 4 c;omega
section
variable {P:Program} {get:Nat->AV} {m:Hp} {n:Nat}
def HZ{T T' ty e:TypeId}{i:TypeInfo}{d':TypeDesc}{base:Option Addr}{sLen sCap k:Nat}{x:Value}{w w':World}{new:Array Value}(hu:P.underlying T=some (.slice e))(hi:P.info? e=some i)
  (hu':P.underlying T'=some d') (hnot:∀k,d'≠.int k) (hn:fe P (Builtin.lenOf x) w k w) (hle:sLen+k<=sCap) (hnew:fe P (Builtin.firstCells i.size k x) w new w)
  (hst:∀a,base=some a->fe P (storeCells (a.add (sLen*i.size)) new.toList) w () w') (hst':base=none->w'=w):
  fe P (Builtin.append_ #[T,T'] ty #[.slice base sLen sCap,x]) w (.slice base (sLen+k) sCap) w':=by
 unfold Builtin.append_
 show fe P (do
  let d<-underlying T
  _) w _ w'
 refine(eT hu).bind ((fD hi).bind ?_);dsimp only[show(#[T,T']:Array TypeId)[1]?=some T' from rfl];refine(eT hu').bind ?_;refine dz (a:=false) (w':=w) ?_ ?_
 ·cases d'<;>first|exact dx _|exact absurd rfl (hnot _)
 rw[aA (by simp)];refine dz hn ?_;rw[aB hle];refine dz hnew ?_;cases base with
 |none=>
  rw[hst' rfl];exact dx _
 |some a=>
  exact(hst a rfl).bind (dx _)
def World.drew1(w:World):World:={w with drawn:=w.drawn+1}
def KO{T T' ty e:TypeId}{i:TypeInfo}{d':TypeDesc}{zv:Value}{base:Option Addr}{sLen sCap k:Nat}{x:Value}{w:World}{old new:Array Value}(hu:P.underlying T=some (.slice e))(hi:P.info? e=some i)
  (hz:i.zero=some zv) (hu':P.underlying T'=some d') (hnot:∀k,d'≠.int k) (hn:fe P (Builtin.lenOf x) w k w) (hgt:sCap<sLen+k) (hb:(sLen+k)*i.bytes<=70368744177664) (hb0:0<i.bytes) (hb1:i.bytes<=1073741824)
  (hold:fe P (Builtin.firstCells i.size sLen (.slice base sLen sCap)) (World.drew1 w) old (World.drew1 w)) (hnew:fe P (Builtin.firstCells i.size k x) (World.drew1 w) new (World.drew1 w)):
  ∃newCap,sLen+k<=newCap/\fe P (Builtin.append_ #[T,T'] ty #[.slice base sLen sCap,x]) w (.slice (some ⟨w.heap.size,0,none⟩) (sLen+k) newCap)
   {World.drew1 w with heap:=w.heap.push (.cells (old++new++Builtin.zeroCells zv.cells (newCap-(sLen+k))) e)}:=by
 have hneed:sLen+k<=70368744177664:=by
  have:(sLen+k)*1<=(sLen+k)*i.bytes:=Nat.mul_le_mul_left _ hb0;omega
 let q:Question:=.appendCap (sLen+k) sCap e;refine⟨q.cut (w.tape w.drawn q),?_,?_⟩
 ·show sLen+k<=(Question.appendCap (sLen+k) sCap e).cut _;simp only[Question.cut];omega
 unfold Builtin.append_;refine(eT hu).bind ((fD hi).bind ?_);dsimp only[show(#[T,T']:Array TypeId)[1]?=some T' from rfl];refine(eT hu').bind ?_;refine dz (a:=false) (w':=w) ?_ ?_
 ·cases d'<;>first|exact dx _|exact absurd rfl (hnot _)
 rw[aA (by simp)];refine dz hn ?_;rw[aA (by omega)];refine(fF hi).bind ?_;rw[aA (by
  rintro⟨_,h⟩
  rcases h with h|h
  ·cases h
  ·omega)]
 refine(fF hi).bind ?_;rw[aA (by
  have h1:=nextslicecap_le hgt;have h2:Builtin.nextslicecap (sLen+k) sCap*i.bytes<=(2*(sLen+k)+400)*i.bytes:=bL _ h1;have h3:(2*(sLen+k)+400)*i.bytes=2*((sLen+k)*i.bytes)+400*i.bytes:=by rw[bD,Nat.mul_assoc]
  omega)]
 refine dz (a:=q.cut (w.tape w.drawn q)) (w':=World.drew1 w) ?_ ?_
 ·rfl
 refine(fF hi).bind ((fe.askRoom _).bind ?_);refine hold.bind ?_;refine dz hnew ?_;refine(fE hi hz).bind ?_;unfold newRow;exact((fH _).bind (dx _)).bind (dx _)
def gp.one{h:PH}{ρ:RM}{s:Nat}:∀{es:List (List AC)} {vs:List Value},gp h ρ s es vs->vs.length=es.length*s->∀v,v∈vs->v.one1=true
|[],vs,_,e,v,hv=>by
 have:vs=[]:=by simpa using e
 subst this;cases hv
| e0::es,vs,r,e,v,hv=>by
 simp only[gp]at r;have hl:vs.length=s+es.length*s:=by simpa[bD,dH]using e
 rw[<-bW s vs]at hv;rcases aU.1 hv with hv|hv
 ·have:=r.2.1.take;rw[r.1]at this;exact gK.one this (by simp;omega) v hv
 ·exact gp.one r.2.2 (by simp;omega) v hv
def gp.takeAll{ph:PH}{ρ:RM}{s:Nat}:∀{es:List (List AC)} {us:List Value},gp ph ρ s es us->gp ph ρ s es (us.take (es.length*s))
|[],us,_=>by simp[gp]
| e::es,us,r=>by
 simp only[gp]at r⊢;have e2:(e::es).length*s=s+es.length*s:=by simp[bD,dH]
 have hl:=r.2.1.length;refine⟨r.1,?_,?_⟩
 ·have:=r.2.1.take;rw[r.1]at this;rw[e2,List.take_add];exact this.more _
 ·rw[e2,List.take_add];rw[dE (by simp;omega),List.drop_of_length_le (by simp;omega)];simpa using gp.takeAll r.2.2
def EW{s:Nat}{y:MX}{K:List (List AC)->List Nat->Prop}(hK:mH get m s K y):∃ys rd,K ys rd/\∀{m':Hp},(∀b,b∈rd->m' b=m b)->∀{ph:PH} {ρ:RM} {w:World} {v:Value},HRel ph ρ m' w.heap->RepV ph ρ (X get y) v->
  ∃new:List Value,fe P (Builtin.lenOf v) w ys.length w/\(∀w2:World,w2.heap=w.heap->fe P (Builtin.firstCells s ys.length v) w2 new.toArray w2)/\new.length=ys.length*s/\gp ph ρ s ys new:=by
 unfold mH at hK;split at hK
 ·rename_i fl s' ys ey;obtain⟨k1,hK⟩:=hK;subst k1;refine⟨_,_,hK,λ{m'} hm {ph ρ w v} hr rv=>?_⟩;rw[ey]at rv;simp only[RepV,RepC,RepD]at rv;obtain⟨a,cap,r1,r2,r3,r4,r5,r6,r7⟩:=rv;subst r1;have htot:=r7.total;refine⟨(cellsAt ph a).take (ys.length*s),by simp only[ah];exact dx _,?_,by simp;omega,?_⟩
  ·intro w2 hw2;simp only[ah];cases a with
   |none=>
    have:=(r5 rfl).1;subst this;simp only[Builtin.firstCells];simpa using (dx (#[]:Array Value))
   | some q=>
    obtain⟨B,off,spot⟩:=q;simp only[Builtin.firstCells];by_cases hys:ys.length=0
    ·rw[hys];simp only[bR,List.take_zero];simpa using fe.loadCells0 (P:=P) _ w2
    have:=r6 _ rfl (by omega);simp only at this;subst this;have hlen:((cellsAt ph (some ⟨B,off,none⟩)).take (ys.length*s)).length=ys.length*s:=by simp;omega
    have:=fG (P:=P) (w:=w2) (B:=B) (o:=off) (vs:=(cellsAt ph (some ⟨B,off,none⟩)).take (ys.length*s)) (λj u hj=>by
     have hj':=DL hj;simp only[cellsAt,bG]at hj';unfold hcells at hj';cases hB:ph B with
     |none=>rw[hB]at hj';simp at hj'
     | some ob=>
      rw[hB]at hj';cases ob with
      |cells c T' fr=>
       rw[cell_of (by rw[hw2];exact hr.pers B _ hB)];simpa using hj'
      |_=>simp at hj')
    rw[hlen]at this;exact this
  ·have r8:=gp.of_E (ρ:=ρ) r7;have:=r8.takeAll;simpa using this
 ·rename_i s' b off len ey;split at hK
  ·rename_i s'' es eb;obtain⟨k1,k2,k3,hK⟩:=hK;subst k1 k2;refine⟨_,_,hK,λ{m'} hm {ph ρ w v} hr rv=>?_⟩;rw[ey]at rv;simp only[RepV,RepC]at rv;obtain⟨p,a,r1,r2,r3,r4,_⟩:=rv;subst r2;have how:=hr.own b p r1;rw[hm b (by simp),eb]at how;have hlen:((es.drop off).take len).length=len:=by simp;omega
   rw[hlen];rcases how with⟨h1,h2⟩|⟨us,U,g1,g2,g3,g5,g4⟩
   ·subst h2;have:len=0:=by simp at k3;omega
    subst this;refine⟨[],dx _,λw2 _=>?_,by simp,by simp[gp]⟩;cases a with
    |none=>exact dx _
    |some q=>simp only[Builtin.firstCells,bR];exact dx _
   ·have hm2:(off+len)*s<=p.2*s:=bL s r3;have e2:(off+len)*s=off*s+len*s:=bD ..;refine⟨(us.drop (off*s)).take (len*s),dx _,λw2 hw2=>?_,by simp;omega,?_⟩
    ·by_cases hlt:off<p.2
     ·have:=r4 hlt;subst this;simp only[Builtin.firstCells];have hl2:((us.drop (off*s)).take (len*s)).length=len*s:=by simp;omega
      have:=fG (P:=P) (w:=w2) (B:=p.1) (o:=off*s) (vs:=(us.drop (off*s)).take (len*s)) (λj u hj=>by
       have hj':=DL hj;rw[cell_of (by rw[hw2];exact g1)]
       simpa[bG]using hj')
      rw[hl2]at this;exact this
     ·have:len=0:=by omega
      subst this;cases a with
      |none=>simp only[Builtin.firstCells,bR,List.take_zero];exact rfl
      |some q=>simp only[Builtin.firstCells,bR,List.take_zero];exact rfl
    ·have r5:=(g4.drop off).takeEs len;have:=r5.takeAll;rw[hlen]at this;exact this
  ·exact hK.elim
 ·exact hK.elim
end
end Go.Abs
