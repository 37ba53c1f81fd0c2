/- Texts of ours, joined and written short by a program of ours. -/
import Derived.Test.YtlfjlokfciejnaaGreatDoorCJ00
set_option maxRecDepth 20000
set_option maxHeartbeats 4000000
set_option linter.unusedVariables false
set_option linter.unusedSimpArgs false
namespace Go.Abs
inductive xD where
|mv (x:MX)
|pick (c a b:MX)
|binI (op:BinOp) (x y:MX)
|divI (op:BinOp) (x y:MX)
|binS (op:BinOp) (x y:MX)
|cat (x y:MX)
|binB (op:BinOp) (x y:MX)
|not (x:MX)
|neg (x:MX)
|convI (k:IntKind) (x:MX)
|boxP (x:MX)
|boxM (x:MX)
|alloc (z:List D)
|build (z:List D) (ps:List (Nat × Nat × MX))
|buildSl (s:Nat) (xs:List MX)
|buildSlM (s:Nat) (xs:List MX)
|load (ag:Bool) (sz:Nat) (x:MX)
|store (sz:Nat) (a v:MX)
|faddr (off:Nat) (x:MX)
|field (ag:Bool) (off sz:Nat) (x:MX)
|iaddrS (s:Nat) (x i:MX)
|iaddrA (len s:Nat) (x i:MX)
|idxA (ag:Bool) (len s:Nat) (x i:MX)
|idxS (x i:MX)
|len (x:MX)
|lenS (x:MX)
|nilck (x:MX)
|extract (x:MX) (i:Nat)
|slice (s:Nat) (x:MX) (lo hi:Option MX)
|slice00 (s:Nat) (x:MX)
|sliceS (x:MX) (lo hi:Option MX)
|append (s bytes:Nat) (x y:MX)
|mkfn (f:FuncId) (caps:List MX)
|call (f:FuncId) (xs:List MX)
|calld (x:MX) (xs:List MX)
|cmpS (f:FuncId) (x y:MX)
|mkmap
|mlook (kk:Nat) (ok ag:Bool) (z:List D) (x k:MX)
|mset (kk:Nat) (x k v:MX)
|mdel (kk:Nat) (x k:MX)
|mlen (x:MX)
|mksl (z:List D) (bytes:Nat) (x:MX)
|mkslM (z:List D) (bytes:Nat) (x y:MX)
|eqAg (ne:Bool) (ks:List Nat) (x y:MX)
|callM (f:FuncId) (xs:List MX)
|calldM (x:MX) (xs:List MX)
|isNil (ne:Bool) (x:MX)
|isNilP (ne:Bool) (x:MX)
|minI (mx:Bool) (x y:MX)
def wL(mx:Bool)(a b:Int):Int:=if mx=true then(if b>a then b else a)else(if b<a then b else a)
def Dw(v:Value):Prop:=∃t,v=.bool t
def C8:Nat->D->D->Option Bool
|0,.int k a,.int k' b=>if k=k' then some (decide (a=b))else none
|1,.str a,.str b=>some (decide (a=b))
|2,.bool a,.bool b=>some (a==b)
|_,_,_=>none
def kN(kk:Nat)(d:D):List (D × AV)->Nat->Option (Option (Nat × AV))
|[],_=>some none
|e::es,i=>match C8 kk d e.1 with
 |some true=>some (some (i,e.2))
 |some false=>kN kk d es (i+1)
 |none=>none
def rU(ag:Bool)(z:List D):AV:=match ag with
|true=>.ag (z.map .d)
|false=>.c (.d (z.headD .any))
def zJ:List Nat->List D->List D->Option Bool
|[],[],[]=>some true
|k::ks,a::as,b::bs=>match C8 k a b,zJ ks as bs with
 |some x,some y=>some (x&&y)
 |_,_=>none
|_,_,_=>none
def Ev:String:=(Extern.BytealgCompare.rows.map (·.1)).getLastD default
def callee (P : Program) (f : FuncId) : Bool := match P.funcs[f]? with | some fn => fn.name != "runtime.NumGoroutine" && fn.body.isSome | none => false
def gu(P:Program)(f:FuncId)(args:List DV)(v:DV):Prop:=
 callee P f=true/\∀(h:PH) (w:World) (argsC:List Value),(∀B o,h B=some o->w.heap[B]?=some o)->yR P h->ji h args argsC->
  Calls P f argsC.toArray w λe w'=>∃(vC:Value) (h':PH),e=.returned vC/\h.le h'/\(∀B,B<w.heap.size->h' B=h B)/\(∀B o,h' B=some o->w'.heap[B]?=some o)/\
   w.heap.size<=w'.heap.size/\(∀B,B<w.heap.size->w'.heap[B]?=w.heap[B]?)/\Same w w'/\kR h' v vC
def MCall(P:Program)(f:FuncId)(args:List AV)(bs:List Blk)(v:AV)(bs':List Blk):Prop:=
 callee P f=true/\bs.length<=bs'.length/\(∀i,i<bs'.length->hpOf bs' i≠.non)/\v.lv (live bs')=true/\(∀b,b∈bs'->b.lv (live bs')=true)/\
 ∀(h:PH) (ρ:RM) (w:World) (argsC:List Value),HRel h ρ (hpOf bs) w.heap->yR P h->zai h ρ args argsC->
  Calls P f argsC.toArray w λe w'=>∃(vC:Value) (h':PH) (ρ':RM),e=.returned vC/\yQ h ρ (hpOf bs) w.heap h' ρ' (hpOf bs') w'.heap/\HRel h' ρ' (hpOf bs') w'.heap/\Same w w'/\RepV h' ρ' v vC/\∀i,i<bs.length->ρ' i=ρ i
def C9(P:Program)(f:FuncId)(vs:List AV)(m:Hp)(n:Nat)(K:AV->List Nat->List (Nat × Blk)->Nat->Prop):Prop:=
∃(l:List Nat) (args:List AV) (bs:List Blk) (v:AV) (bs':List Blk),MCall P f args bs v bs'/\l.Nodup/\(∀i,i∈l->i<n)/\vs=AV.rens (jJ l) args/\AV.lts l.length args=true/\(∀b,b∈bs->b.lt l.length=true)/\vL m (jJ l) l bs/\CZ m n (bs'.length-bs.length)/\
 K (v.ren (jJ (l++jN n (bs'.length-bs.length)))) [] (uJ (jJ (l++jN n (bs'.length-bs.length))) (l++jN n (bs'.length-bs.length)) bs') (n+(bs'.length-bs.length))
mutual
def DV.av:DV->AV
|.one x=>.c (.d x)
|.agg cs=>.ag (cs.map .d)
|.tup vs=>.tup (DV.avs vs)
def DV.avs:List DV->List AV
|[]=>[]
|v::vs=>DV.av v::DV.avs vs
end
mutual
theorem kR.av{h:PH}{ρ:RM}:∀{x:DV} {v:Value},kR h x v->RepV h ρ x.av v
|.one x,v,r=>by simp only[kR]at r;simp only[DV.av,RepV,RepC];exact r
|.agg cs,v,r=>by
 simp only[kR]at r;obtain⟨vs,h1,h2,h3⟩:=r;simp only[DV.av,RepV];exact⟨vs,h1,by simpa using h2,iJ.of_D h3⟩
|.tup xs,v,r=>by
 simp only[kR]at r;obtain⟨vs,h1,h2⟩:=r;simp only[DV.av,RepV];exact⟨vs,h1,ji.avs h2⟩
theorem ji.avs{h:PH}{ρ:RM}:∀{xs:List DV} {vs:List Value},ji h xs vs->zai h ρ (DV.avs xs) vs
|[],vs,r=>by simpa[ji,DV.avs,zai]using r
|_::_,[],r=>by simp[ji]at r
|x::xs,v::vs,r=>by
 simp only[ji]at r;simp only[DV.avs,zai];exact⟨kR.av r.1,ji.avs r.2⟩
end
def AF:AV->Option DV
|.c (.d x)=>some (.one x)
|.ag cs=>(jc cs).map .agg
|_=>none
def yS:List AV->Option (List DV)
|[]=>some []
|v::vs=>match AF v,yS vs with
 |some x,some xs=>some (x::xs)
 |_,_=>none
theorem znz{h:PH}{ρ:RM}{v:AV}{x:DV}{u:Value}(e:AF v=some x)(r:RepV h ρ v u):kR h x u:=by
 unfold AF at e;split at e
 ·cases e;simpa only[RepV,RepC,kR]using r
 ·rename_i cs;simp only[aV]at e;obtain⟨ds,h1,h2⟩:=e;subst h2;have:=Du h1;subst this;simp only[RepV]at r;obtain⟨vs,e1,e2,e3⟩:=r;simp only[kR];exact⟨vs,e1,by simpa using e2,iJ.to_D e3⟩
 ·cases e
theorem Ku{h:PH}{ρ:RM}:∀{vs:List AV} {xs:List DV} {us:List Value},yS vs=some xs->zai h ρ vs us->ji h xs us
|[],xs,us,e,r=>by simp[yS]at e;subst e;simpa[zai,ji]using r
|v::vs,xs,[],e,r=>by simp[zai]at r
| v::vs,xs,u::us,e,r=>by
 simp only[zai]at r;simp only[yS]at e;split at e
 ·rename_i x xs' h1 h2;cases e;simp only[ji];exact⟨znz h1 r.1,Ku h2 r.2⟩
 ·cases e
def cut{α:Type}(cs:List α)(off sz:Nat):List α:=if off=0/\cs.length=sz then cs else(cs.drop off).take sz
def put{α:Type}(cs:List α)(off:Nat)(l:List α):List α:=if off=0/\l.length=cs.length then l else splice cs off l
def wN(ag:Bool)(sz:Nat)(cs:List AC)(off:Nat)(K:AV->Prop):Prop:=
 match ag with
 |true=>off+sz<=cs.length/\K (.ag (cut cs off sz))
 |false=>match cs[off]? with
  |some c=>K (.c c)
  |none=>False
def Dx(ag:Bool)(sz:Nat)(cs:List D)(off:Nat)(K:AV->Prop):Prop:=
 match ag with
 |true=>off+sz<=cs.length/\K (.ag ((cut cs off sz).map .d))
 |false=>match cs[off]? with
  |some c=>K (.c (.d c))
  |none=>False
def BQ(get:Nat->AV):List AC->List (Nat × Nat × MX)->Option (List AC)
|cs,[]=>some cs
|cs,(off,sz,x)::ps=>match vJ (X get x)with
 |some l=>if l.length=sz/\off+sz<=cs.length then BQ get (put cs off l) ps else none
 |none=>none
def lS(get:Nat->AV)(s:Nat):List MX->Option (List (List D))
|[]=>some []
|x::xs=>match cellsD (X get x),lS get s xs with
 |some l,some r=>if l.length=s then some (l::r)else none
 |_,_=>none
def rV(get:Nat->AV)(s:Nat):List MX->Option (List (List AC))
|[]=>some []
|x::xs=>match vJ (X get x),rV get s xs with
 |some l,some r=>if l.length=s then some (l::r)else none
 |_,_=>none
def BR(get:Nat->AV):List MX->Option (List AC)
|[]=>some []
|x::xs=>match X get x,BR get xs with
 |.c c,some r=>if c.one then some (c::r)else none
 |_,_=>none
def bnd(get:Nat->AV)(d:Nat)(K:Nat->Prop):Option MX->Prop
|none=>K d
|some x=>match X get x with
 |.c (.d (.int _ j))=>0<=j/\K j.toNat
 |_=>False
def sZ(get:Nat->AV)(m:Hp)(s:Nat)(K:List (List AC)->List Nat->Prop)(y:MX):Prop:=
 match X get y with
 |.c (.d (.sl _ s' ys))=>s=s'/\K (ys.map (·.map .d)) []
 |.c (.msl s' b off len)=>match m b with
  |.arr s'' es=>s=s'/\s=s''/\off+len<=es.length/\K ((es.drop off).take len) [b]
  |_=>False
 |_=>False
def ev (P:Program) (get:Nat->AV) (m:Hp) (n:Nat) (K:AV->List Nat->List (Nat × Blk)->Nat->Prop):xD->Prop
|.mv x=>K (X get x) [] [] n
|.pick c a b=>match X get c with
 |.c (.d (.bool t))=>(t=true->K (X get a) [] [] n)/\(t=false->K (X get b) [] [] n)
 |_=>False
|.binI op x y=>match X get x,X get y with
 |.c (.d (.int k a)),.c (.d (.int k' b))=>k=k'/\(match Er op k a b with|some d=>K (.c (.d d)) [] [] n|none=>False)
 |_,_=>False
|.divI op x y=>match X get x,X get y with
 |.c (.d (.int k a)),.c (.d (.int k' b))=>k=k'/\b≠0/\(match op with|.quo=>K (.c (.d (.int k (k.wrap (a.tdiv b))))) [] [] n|.rem=>K (.c (.d (.int k (a.tmod b)))) [] [] n|_=>False)
 |_,_=>False
|.binS op x y=>match X get x,X get y with
 |.c (.d (.str a)),.c (.d (.str b))=>(match Es op a b with|some d=>K (.c (.d d)) [] [] n|none=>False)
 |_,_=>False
|.cat x y=>match X get x,X get y with
 |.c (.d (.str a)),.c (.d (.str b))=>a.size+b.size<=zah/\K (.c (.d (.str (a++b)))) [] [] n
 |_,_=>False
|.binB op x y=>match X get x,X get y with
 |.c (.d (.bool a)),.c (.d (.bool b))=>(match Et op a b with|some d=>K (.c (.d d)) [] [] n|none=>False)
 |_,_=>False
|.not x=>match X get x with
 |.c (.d (.bool a))=>K (.c (.d (.bool (!a)))) [] [] n
 |_=>False
|.neg x=>match X get x with
 |.c (.d (.int k a))=>K (.c (.d (.int k (k.wrap (0-a))))) [] [] n
 |_=>False
|.convI k x=>match X get x with
 |.c (.d (.int _ a))=>K (.c (.d (.int k (k.wrap a)))) [] [] n
 |_=>False
|.boxP x=>match cellsD (X get x)with
 |some ds=>K (.c (.d (.rp ds 0))) [] [] n
 |none=>False
|.boxM x=>match vJ (X get x)with
 |some cs=>m n=.non/\K (.c (.ptr n 0)) [] [(n,.box cs)] (n+1)
 |none=>False
|.alloc z=>m n=.non/\K (.c (.ptr n 0)) [] [(n,.box (z.map .d))] (n+1)
|.build z ps=>match BQ get (z.map .d) ps with
 |some cs=>K (.ag cs) [] [] n
 |none=>False
|.buildSl s xs=>match lS get s xs with
 |some es=>K (.c (.d (.sl true s es))) [] [] n
 |none=>False
|.buildSlM s xs=>match rV get s xs with
 |some es=>m n=.non/\K (.c (.msl s n 0 xs.length)) [] [(n,.arr s es)] (n+1)
 |none=>False
| .load ag sz x=>match X get x with
 |.c (.d (.rp cs off))=>Dx ag sz cs off λv=>K v [] [] n
 |.c (.ptr b off)=>match m b with
  |.box cs=>wN ag sz cs off λv=>K v [b] [] n
  |_=>False
 |.c (.ept s b i off)=>match m b with
  |.arr s' es=>s=s'/\(match es[i]? with|some e=>wN ag sz e off λv=>K v [b] [] n|none=>False)
  |_=>False
 |_=>False
| .store sz a v=>match X get a,vJ (X get v)with
 |.c (.ptr b off),some l=>match m b with
  |.box cs=>l.length=sz/\off+sz<=cs.length/\K (.c (.d .any)) [] [(b,.box (put cs off l))] n
  |_=>False
 |.c (.ept s b i off),some l=>match m b with
  |.arr s' es=>s=s'/\l.length=sz/\off+sz<=s/\(match es[i]? with|some e=>K (.c (.d .any)) [] [(b,.arr s (es.set i (put e off l)))] n|none=>False)
  |_=>False
 |_,_=>False
|.faddr off x=>match X get x with
 |.c (.ptr b o)=>K (.c (.ptr b (o+off))) [] [] n
 |.c (.ept s b i o)=>K (.c (.ept s b i (o+off))) [] [] n
 |.c (.d (.rp cs o))=>K (.c (.d (.rp cs (o+off)))) [] [] n
 |_=>False
|.field ag off sz x=>match X get x with
 |.ag cs=>wN ag sz cs off λv=>K v [] [] n
 |_=>False
|.iaddrS s x i=>match X get x,X get i with
 |.c (.d (.sl _ s' es)),.c (.d (.int _ j))=>s=s'/\0<=j/\(match es[j.toNat]? with|some e=>K (.c (.d (.rp e 0))) [] [] n|none=>False)
 |.c (.msl s' b off len),.c (.d (.int _ j))=>s=s'/\0<=j/\j<len/\K (.c (.ept s b (off+j.toNat) 0)) [] [] n
 |_,_=>False
|.iaddrA len s x i=>match X get x,X get i with
 |.c (.ptr b o),.c (.d (.int _ j))=>0<=j/\j<len/\K (.c (.ptr b (o+j.toNat*s))) [] [] n
 |.c (.ept s' b i' o),.c (.d (.int _ j))=>0<=j/\j<len/\K (.c (.ept s' b i' (o+j.toNat*s))) [] [] n
 |.c (.d (.rp cs o)),.c (.d (.int _ j))=>0<=j/\j<len/\K (.c (.d (.rp cs (o+j.toNat*s)))) [] [] n
 |_,_=>False
|.idxA ag len s x i=>match X get x,X get i with
 |.ag cs,.c (.d (.int _ j))=>0<=j/\j<len/\wN ag s cs (j.toNat*s) λv=>K v [] [] n
 |_,_=>False
|.idxS x i=>match X get x,X get i with
 |.c (.d (.str t)),.c (.d (.int _ j))=>0<=j/\(match t.data.toList[j.toNat]? with|some b=>K (.c (.d (.int .u8 b.toNat))) [] [] n|none=>False)
 |_,_=>False
| .len x=>match X get x with
 |.c (.d (.sl _ _ es))=>K (.c (.d (.int .i64 es.length))) [] [] n
 |.c (.msl _ b off l)=>match m b with
  |.arr _ es=>off+l<=es.length/\K (.c (.d (.int .i64 l))) [b] [] n
  |_=>False
 |_=>False
|.lenS x=>match X get x with
 |.c (.d (.str t))=>K (.c (.d (.int .i64 t.size))) [] [] n
 |_=>False
|.nilck x=>match X get x with
 |.c (.ptr b o)=>K (.c (.ptr b o)) [] [] n
 |.c (.ept s b i o)=>K (.c (.ept s b i o)) [] [] n
 |.c (.d (.rp cs o))=>K (.c (.d (.rp cs o))) [] [] n
 |_=>False
| .extract x i=>match X get x with
 |.tup vs=>match vs[i]? with
  |some v=>K v [] [] n
  |none=>False
 |_=>False
|.slice s x lo hi=>match X get x with
 |.c (.d (.sl e s' es))=>s=s'/\bnd get es.length (λh=>bnd get 0 (λl=>l<=h/\h<=es.length/\K (.c (.d (.sl (e&&hi.isNone) s ((es.take h).drop l)))) [] [] n) lo) hi
 |.c (.msl s' b off len)=>s=s'/\bnd get len (λh=>bnd get 0 (λl=>l<=h/\h<=len/\K (.c (.msl s b (off+l) (h-l))) [] [] n) lo) hi
 |_=>False
|.slice00 s x=>match X get x with
 |.c (.d (.sl e s' es))=>K (.c (.d (.sl true s []))) [] [] n
 |_=>False
|.sliceS x lo hi=>match X get x with
 |.c (.d (.str t))=>bnd get t.size (λh=>bnd get 0 (λl=>l<=h/\h<=t.size/\K (.c (.d (.str (t.extract l h)))) [] [] n) lo) hi
 |_=>False
| .append s bytes x y=>match X get x with
 |.c (.msl s' b off len)=>match m b with
  | .arr s'' es=>s=s'/\s=s''/\off=0/\len<=es.length/\m n=.non/\sZ get m s (λys rd=>(len+ys.length)*bytes<=70368744177664/\(rd=[]\/rd=[b]\/b∉rd)/\
    K (.c (.msl s n 0 (len+ys.length))) rd [(b,.dead),(n,.arr s (es.take len++ys))] (n+1)) y
  |_=>False
 |.c (.d (.sl true s' []))=>m n=.non/\sZ get m s (λys rd=>ys.length*bytes<=70368744177664/\K (.c (.msl s n 0 ys.length)) rd [(n,.arr s ys)] (n+1)) y
 |.c (.d (.sl true s' (e::es)))=>s=s'/\m n=.non/\sZ get m s (λys rd=>(ys=[]->K (.c (.d (.sl true s (e::es)))) rd [] (n+1))/\(ys≠[]->((e::es).length+ys.length)*bytes<=70368744177664/\K (.c (.msl s n 0 ((e::es).length+ys.length))) rd [(n,.arr s ((e::es).map (·.map .d)++ys))] (n+1))) y
 |_=>False
| .mkfn f caps=>match BR get caps with
 |some cs=>match jc cs with
  |some ds=>K (.c (.d (.fn (.func f) ds))) [] [] n
  |none=>K (.c (.fn (.func f) cs)) [] [] n
 |none=>False
|.call f xs=>match yS (xs.map (X get))with
 |some ds=>∃v,gu P f ds v/\K v.av [] [] n
 |none=>False
|.calld x xs=>match X get x,yS (xs.map (X get))with
 |.c (.d (.fn (.func f) caps)),some ds=>∃v,gu P f (ds++caps.map .one) v/\K v.av [] [] n
 |_,_=>False
|.callM f xs=>C9 P f (xs.map (X get)) m n K
|.calldM x xs=>match X get x with
 |.c (.fn (.func f) caps)=>C9 P f (xs.map (X get)++caps.map .c) m n K
 |.c (.d (.fn (.func f) caps))=>C9 P f (xs.map (X get)++caps.map λc=>.c (.d c)) m n K
 |_=>False
|.minI mx x y=>match X get x,X get y with
 |.c (.d (.int k a)),.c (.d (.int k' b))=>k=k'/\K (.c (.d (.int k (wL mx a b)))) [] [] n
 |_,_=>False
|.isNilP ne x=>match X get x with
 |.c (.d (.sc (.pointer none)))=>K (.c (.d (.bool !ne))) [] [] n
 |.c (.d (.rp _ _))=>K (.c (.d (.bool ne))) [] [] n
 |_=>False
|.isNil ne x=>match X get x with
 |.c (.d (.sl _ _ (_::_)))=>K (.c (.d (.bool ne))) [] [] n
 |.c (.d (.sl _ _ []))=>K (.c (.op Dw)) [] [] n
 |_=>False
|.cmpS f x y=>match X get x,X get y with
 |.c (.d (.str a)),.c (.d (.str b))=>K (.c (.d (.int .i64 (Lib.compareBytes a.data.toList b.data.toList)))) [] [] n
 |_,_=>False
|.mkmap=>m n=.non/\K (.c (.map n)) [] [(n,.map [])] (n+1)
| .mlook kk ok ag z x k=>match X get x,X get k with
 | .c (.map b),.c (.d d)=>match m b with
  |.map es=>match kN kk d es 0 with
   |some (some (_,v))=>K (if ok then .tup [v,.c (.d (.bool true))]else v) [b] [] n
   |some none=>K (if ok then .tup [rU ag z,.c (.d (.bool false))]else rU ag z) [b] [] n
   |none=>False
  |_=>False
 |_,_=>False
| .mset kk x k v=>match X get x,X get k with
 | .c (.map b),.c (.d d)=>match m b with
  |.map es=>match kN kk d es 0 with
   |some (some (i,_))=>K (.c (.d .any)) [] [(b,.map (es.set i (d,X get v)))] n
   |some none=>K (.c (.d .any)) [] [(b,.map (es++[(d,X get v)]))] n
   |none=>False
  |_=>False
 |_,_=>False
| .mdel kk x k=>match X get x,X get k with
 | .c (.map b),.c (.d d)=>match m b with
  |.map es=>match kN kk d es 0 with
   |some (some (i,_))=>K (.tup []) [] [(b,.map (es.eraseIdx i))] n
   |some none=>K (.tup []) [] [(b,.map es)] n
   |none=>False
  |_=>False
 |_,_=>False
| .mlen x=>match X get x with
 |.c (.map b)=>match m b with
  |.map es=>es.length<=zah/\K (.c (.d (.int .i64 es.length))) [b] [] n
  |_=>False
 |_=>False
|.mksl z bytes x=>match X get x with
 |.c (.d (.int .i64 j))=>0<=j/\j*bytes<=70368744177664/\K (.c (.d (.sl true z.length (List.replicate j.toNat z)))) [] [] n
 |_=>False
|.mkslM z bytes x y=>match X get x,X get y with
 |.c (.d (.int .i64 j)),.c (.d (.int .i64 l))=>0<=j/\j<=l/\l*bytes<=70368744177664/\m n=.non/\K (.c (.msl z.length n 0 j.toNat)) [] [(n,.arr z.length ((List.replicate j.toNat z).map (·.map .d)))] (n+1)
 |_,_=>False
| .eqAg ne ks x y=>match X get x,X get y with
 | .ag cs,.ag cs'=>match jc cs,jc cs' with
  |some a,some b=>match zJ ks a b with
   |some t=>K (.c (.d (.bool (t^^ne)))) [] [] n
   |none=>False
  |_,_=>False
 |_,_=>False
def xz:List D->List Value->Bool
|[],[]=>true
|d::ds,v::vs=>IA d v&&v.one1&&xz ds vs
|_,_=>false
theorem Dy:∀{ds:List D} {vs:List Value},xz ds vs=true->vs.length=ds.length/\∀ph,RepL ph ds vs
|[],[],_=>⟨rfl,λ_=>by simp[RepL]⟩
|d::ds,v::vs,h=>by
 simp only[xz,aG]at h;obtain⟨h1,h2⟩:=Dy h.2;refine⟨by simp[h1],λph=>?_⟩;simp only[RepL];exact⟨⟨h.1.2,R4 h.1.1 ph⟩,h2 ph⟩
|[],_::_,h=>by simp[xz]at h
|_::_,[],h=>by simp[xz]at h
def isInt(P:Program)(T:TypeId):Bool:=match P.underlying T with|some (.int _)=>true|_=>false
def yT(P:Program)(T:TypeId):Option TypeInfo:=match P.underlying T with|some (.slice e)=>P.info? e|_=>none
def Kv(P:Program)(T:TypeId):Option (Nat × TypeInfo):=match P.underlying T with|some (.array n e)=>(P.info? e).map λi=>(n,i)|_=>none
def IE(P:Program)(T:TypeId)(f:Nat):Option (Nat × TypeId × TypeInfo):=
 match P.underlying T with
 |some (.struct fs)=>match fs[f]? with
  |some x=>(P.info? x.type).map λi=>(x.offset,x.type,i)
  |none=>none
 |_=>none
def vM:Option MX->Option Operand->Bool
|none,none=>true
|some x,some o=>iI x o
|_,_=>false
def zeroOf(i:TypeInfo):List Value:=match i.zero with|some z=>z.cells.toList|none=>[]
def Ca(P:Program)(pl:Nat->Option (Nat × Nat)):List (Nat × Nat × MX)->List (Nat × Operand)->Bool
|[],[]=>true
|(off,sz,x)::ps,(i,o)::os=>(pl i==some (off,sz))&&iI x o&&Ca P pl ps os
|_,_=>false
def Cb:List MX->Nat->List (Nat × Operand)->Bool
|[],_,[]=>true
|x::xs,k,(i,o)::os=>(i==k)&&iI x o&&Cb xs (k+1) os
|_,_,_=>false
def BS(P:Program)(T:TypeId)(kk:Nat):Bool:=match P.underlying T with
|some (.map k _)=>(match P.underlying k with|some (.int _)=>kk==0|some .string=>kk==1|some .bool=>kk==2|_=>false)
|_=>false
def IG(P:Program)(T:TypeId):Option TypeId:=match P.underlying T with|some (.map _ e)=>some e|_=>none
def II(P:Program)(T:TypeId)(z:List D)(bytes:Nat):Bool:=match yT P T with
|some i=>i.size==z.length&&i.bytes==bytes&&decide (0<bytes)&&decide (0<z.length)&&i.zero.isSome&&xz z (zeroOf i)
|none=>false
def Cc(P:Program):List Nat->Nat->List Field->Bool
|[],_,[]=>true
| k :: ks, i, f :: fs => f.offset == i && f.name != "_" && (match P.underlying f.type with | some (.int _) => k == 0 | some .string => k == 1 | some .bool => k == 2 | _ => false) && Cc P ks (i + 1) fs
|_,_,_=>false
def Kw(P:Program)(T:TypeId)(ks:List Nat):Bool:=match P.underlying T with
|some (.struct fs)=>Cc P ks 0 fs.toList
|_=>false
theorem zlp{P:Program}{T:TypeId}{ks:List Nat}(h:Kw P T ks=true):∃fs,P.underlying T=some (.struct fs)/\Cc P ks 0 fs.toList=true:=by
 unfold Kw at h;split at h
 ·rename_i fs hu;exact⟨fs,hu,h⟩
 ·cases h
def Ce(P:Program)(fs:Array Field)(i:Nat):Option (Nat × Nat):=match fs[i]? with|some f=>(P.info? f.type).map λt=>(f.offset,t.size)|none=>none
def Ky(P:Program)(c:Call)(kk:Nat)(x k:MX):Bool:=match c.callee with
| .builtin .delete=>(match c.args.toList with
 |[o,o']=>(match c.argTypes.toList with
  |T::_=>iI x o&&iI k o'&&BS P T kk
  |_=>false)
 |_=>false)
|_=>false
def Kz(P:Program)(c:Call)(x:MX):Bool:=match c.callee with
| .builtin .len=>(match c.args.toList with
 |[o]=>(match c.argTypes.toList with
  |[T]=>iI x o&&(IG P T).isSome
  |_=>false)
 |_=>false)
|_=>false
theorem zlq{P:Program}{c:Call}{kk:Nat}{x k:MX}(h:Ky P c kk x k=true):∃o o' T tl,c.callee=.builtin .delete/\c.args.toList=[o,o']/\c.argTypes.toList=T::tl/\(iI x o=true/\iI k o'=true)/\BS P T kk=true:=by
 unfold Ky at h;split at h
 ·rename_i hb;split at h
  ·rename_i o o' ha;split at h
   ·rename_i T tl ht;simp only[aG]at h;exact⟨o,o',T,tl,hb,ha,ht,h⟩
   ·cases h
  ·cases h
 ·cases h
theorem zkK{P:Program}{c:Call}{x:MX}(h:Kz P c x=true):∃o T k e,c.callee=.builtin .len/\c.args.toList=[o]/\c.argTypes.toList=[T]/\iI x o=true/\P.underlying T=some (.map k e):=by
 unfold Kz at h;split at h
 ·rename_i hb;split at h
  ·rename_i o ha;split at h
   ·rename_i T ht;simp only[aG]at h;obtain⟨h1,h2⟩:=h;unfold IG at h2;split at h2
    ·rename_i k e hu;exact⟨o,T,k,e,hb,ha,ht,h1,hu⟩
    ·cases h2
   ·cases h
  ·cases h
 ·cases h
def iP(P:Program):xD->Op->Bool
|.mv x,.move o=>iI x o
|.mv x,.assign o=>iI x o
|.pick c a b,.pick c' a' b'=>iI c c'&&iI a a'&&iI b b'
|.binI op x y,.binOp op' _ x' y' _=>decide (op=op')&&iI x x'&&iI y y'
|.divI op x y,.binOp op' _ x' y' _=>decide (op=op')&&(decide (op=.quo)||decide (op=.rem))&&iI x x'&&iI y y'
|.binS op x y,.binOp op' _ x' y' _=>decide (op=op')&&iI x x'&&iI y y'
|.cat x y,.binOp op' _ x' y' _=>decide (op'=.add)&&iI x x'&&iI y y'
|.binB op x y,.binOp op' T x' y' _=>decide (op=op')&&(match P.underlying T with|some .bool=>true|_=>false)&&iI x x'&&iI y y'
|.not x,.unOp op _ o=>decide (op=.not)&&iI x o
|.neg x,.unOp op _ o=>decide (op=.neg)&&iI x o
|.convI k x,.convert s d o=>(match P.underlying d with|some (.int k')=>decide (k=k')|_=>false)&&(match P.underlying s with|some _=>true|none=>false)&&iI x o
|.boxP x,.box T o=>iI x o
|.boxM x,.box T o=>iI x o
|.alloc z,.alloc T=>(match P.info? T with|some i=>i.zero.isSome&&xz z (zeroOf i)|none=>false)
| .build z ps,.build T os=>(match P.info? T,P.underlying T with
  |some i,some (.struct fs)=>i.zero.isSome&&xz z (zeroOf i)&&fs.toList.all (λf=>(P.info? f.type).isSome)&&Ca P (Ce P fs) ps os.toList
  |some i,some (.array _ e)=>(match P.info? e with|some j=>i.zero.isSome&&xz z (zeroOf i)&&Ca P (λk=>some (k*j.size,j.size)) ps os.toList|none=>false)
  |_,_=>false)
|.buildSl s xs,.buildSlice T n os=>(match yT P T with|some i=>i.size==s&&i.zero.isSome&&(zeroOf i).length==s&&xs.length==n&&decide (n*s<=16777216)&&decide (n<=16777216)&&Cb xs 0 os.toList|none=>false)
|.buildSlM s xs,.buildSlice T n os=>(match yT P T with|some i=>i.size==s&&i.zero.isSome&&(zeroOf i).length==s&&xs.length==n&&decide (n*s<=16777216)&&decide (n<=16777216)&&Cb xs 0 os.toList|none=>false)
|.load ag sz x,.load T o=>xC P T==some (ag,sz)&&iI x o
|.store sz a v,.store T a' v'=>(match P.info? T with|some i=>i.size==sz&&decide (0<sz)|none=>false)&&iI a a'&&iI v v'
|.faddr off x,.fieldAddr T o f=>(match IE P T f with|some (off',_,i)=>off==off'&&i.size !=0|none=>false)&&iI x o
|.field ag off sz x,.field T o f=>(match IE P T f with|some (off',U,_)=>off==off'&&xC P U==some (ag,sz)|none=>false)&&iI x o
|.iaddrS s x i,.indexAddr T x' i'=>(match yT P T with|some e=>e.size==s|none=>false)&&iI x x'&&iI i i'
|.iaddrA len s x i,.indexAddr T x' i'=>(match Kv P T with|some (n,e)=>n==len&&e.size==s|none=>false)&&iI x x'&&iI i i'
|.idxA ag len s x i,.index T x' i'=>(match P.underlying T with|some (.array n e)=>n==len&&xC P e==some (ag,s)|_=>false)&&iI x x'&&iI i i'
|.idxS x i,.index T x' i'=>(match P.underlying T with|some .string=>true|_=>false)&&iI x x'&&iI i i'
| .len x,.call c=>(match c.callee,c.args.toList,c.argTypes.toList with
  |.builtin .len,[o],[T]=>iI x o&&(match P.underlying T with|some (.slice _)=>true|_=>false)
  |_,_,_=>false)
| .lenS x,.call c=>(match c.callee,c.args.toList,c.argTypes.toList with
  |.builtin .len,[o],[T]=>iI x o&&(match P.underlying T with|some .string=>true|_=>false)
  |_,_,_=>false)
|.nilck x,.nilCheck o=>iI x o
|.extract x i,.extract o j=>i==j&&iI x o
|.slice s x lo hi,.slice T o l h mx=>(match yT P T with|some e=>e.size==s|none=>false)&&mx.isNone&&iI x o&&vM lo l&&vM hi h
|.slice00 s x,.slice T o l h mx=>(match yT P T with|some e=>e.size==s|none=>false)&&iI x o&&l.isNone&&vM (some (.k (.int .i64 0))) h&&vM (some (.k (.int .i64 0))) mx
|.sliceS x lo hi,.slice T o l h mx=>(match P.underlying T with|some .string=>true|_=>false)&&mx.isNone&&iI x o&&vM lo l&&vM hi h
| .append s bytes x y,.call c=>(match c.callee,c.args.toList,c.argTypes.toList with
  |.builtin .append,[o,o'],[T,T']=>iI x o&&iI y o'&& !isInt P T'&&(P.underlying T').isSome&&(match yT P T with|some e=>e.size==s&&e.bytes==bytes&&decide (0<bytes)&&decide (bytes<=1073741824)&&decide (0<s)&&e.zero.isSome&&(zeroOf e).length==s|none=>false)
  |_,_,_=>false)
|.mkfn f caps,.makeFunc fn first captured=>(match fn with|.func g=>f==g|_=>false)&&first.isEmpty&&wK caps captured.toList
|.call f xs,.call c=>(match c.callee with|.value (.func g)=>f==g|_=>false)&&wK xs c.args.toList
|.calld x xs,.call c=>(match c.callee with|.value o=>iI x o|_=>false)&&wK xs c.args.toList
|.callM f xs,.call c=>(match c.callee with|.value (.func g)=>f==g|_=>false)&&wK xs c.args.toList
|.calldM x xs,.call c=>(match c.callee with|.value o=>iI x o|_=>false)&&wK xs c.args.toList
| .cmpS f x y,.call c=>(match c.callee,c.args.toList with
  |.value (.func g),[o,o']=>f==g&&(match P.funcs[f]? with|some fn=>fn.name==Ev&&fn.body.isNone&&(Extern.findNext fn).isNone|none=>false)&&iI x o&&iI y o'
  |_,_=>false)
|.mkmap,.makeMap _ r=>r.isNone
| .mlook kk ok ag z x k,.lookup T x' k' ok'=>ok==ok'&&iI x x'&&iI k k'&&BS P T kk&&(match IG P T with
  |some e=>(match P.info? e with|some i=>i.zero.isSome&&xz z (zeroOf i)&&xC P e==some (ag,z.length)&&(match i.zero with|some (.agg _)=>ag|some (.tuple _)=>false|some _=> !ag|none=>false)|none=>false)
  |none=>false)
|.mset kk x k v,.mapUpdate T x' k' v'=>iI x x'&&iI k k'&&iI v v'&&BS P T kk
|.mset kk x k v,.insert T x' k' v'=>iI x x'&&iI k k'&&iI v v'&&BS P T kk
|.mdel kk x k,.call c=>Ky P c kk x k
|.mlen x,.call c=>Kz P c x
|.mksl z bytes x,.makeSlice T l c=>iI x l&&iI x c&&II P T z bytes
|.mkslM z bytes x y,.makeSlice T l c=>iI x l&&iI y c&&II P T z bytes
| .minI mx x y,.call c=>(match c.callee,c.args.toList with
  |.builtin .min,[o,o']=> !mx&&iI x o&&iI y o'
  |.builtin .max,[o,o']=>mx&&iI x o&&iI y o'
  |_,_=>false)
|.isNilP ne x,.binOp op T x' y' _=>decide (op=if ne then .neq else .eql)&&iI x x'&&(match y' with|.const (.pointer none)=>true|_=>false)&&(match P.underlying T with|some (.pointer _)=>true|_=>false)
|.isNil ne x,.binOp op T x' y' _=>decide (op=if ne then .neq else .eql)&&iI x x'&&(match y' with|.const (.slice none 0 0)=>true|_=>false)&&(match P.underlying T with|some (.slice _)=>true|_=>false)
|.eqAg ne ks x y,.binOp op T x' y' _=>decide (op=if ne then .neq else .eql)&&iI x x'&&iI y y'&& !P.stoodInHeld T&& !P.eqGuardType P.depth T&&Kw P T ks
|_,_=>false
section
variable {P:Program} {get:Nat->AV} {m:Hp} {n:Nat}
theorem R6{o:Oper}{x:MX}{ox:Operand}(ho:o.op=.move ox\/o.op=.assign ox)(h:iI x ox=true):ic P o get m [] [] (X get x):=by
 refine ic.of_pure λm' h1 ph ρ w a hr hg=>⟨a.eval ox,?_,jf h λk hk=>hg k ?_⟩
 ·rcases ho with ho|ho<;>(unfold execOp;rw[ho];exact fK _)
 ·rcases ho with ho|ho<;>(rw[ho];simp[Op.operands,hk])
theorem zm2{o:Oper}{c x y:MX}{oc ox oy:Operand}(ho:o.op=.pick oc ox oy)(hc:iI c oc=true)(hx:iI x ox=true)(hy:iI y oy=true){t:Bool}(et:X get c=.c (.d (.bool t))):
  ic P o get m [] [] (if t then X get x else X get y):=by
 refine ic.of_pure λm' h1 ph ρ w a hr hg=>⟨if t then a.eval ox else a.eval oy,?_,?_⟩
 ·have rc:=jf hc (ph:=ph) (ρ:=ρ) (get:=get) (a:=a) λk hk=>hg k (by rw[ho];simp[Op.operands,hk]);rw[et]at rc;simp only[RepV,RepC,RepD]at rc;unfold execOp;rw[ho];simp only[rc,asBool];refine fM (a:=t) (fK _) ?_;cases t<;>exact fK _
 ·cases t
  ·exact jf hy λk hk=>hg k (by rw[ho];simp[Op.operands,hk])
  ·exact jf hx λk hk=>hg k (by rw[ho];simp[Op.operands,hk])
theorem Ew{o:Oper}{op:BinOp}{T U:TypeId}{x y:MX}{ox oy:Operand}(ho:o.op=.binOp op T ox oy U)(hx:iI x ox=true)(hy:iI y oy=true){d:D}
  (H:∀(ph:PH) (ρ:RM) (a b:Value) (w:World),RepV ph ρ (X get x) a->RepV ph ρ (X get y) b->¬(a=.nilIface/\b=.nilIface)/\(∀c d,¬(a=.agg c/\b=.agg d))/\∃v,iA P (binOp op T a b) w v w/\RepD ph d v):
  ic P o get m [] [] (.c (.d d)):=by
 refine ic.of_pure λm' h1 ph ρ w a hr hg=>?_;have r1:=jf hx (ph:=ph) (ρ:=ρ) (get:=get) (a:=a) λk hk=>hg k (by rw[ho];simp[Op.operands,hk]);have r2:=jf hy (ph:=ph) (ρ:=ρ) (get:=get) (a:=a) λk hk=>hg k (by rw[ho];simp[Op.operands,hk]);obtain⟨g1,g2,v,hv,rv⟩:=H ph ρ _ _ w r1 r2;refine⟨v,?_,by simpa only[RepV,RepC]using rv⟩;unfold execOp;rw[ho];refine fM (a:=v) ?_ (fK _);exact(zi2 op T ox oy _ _ g1 g2).bind hv
theorem R7{o:Oper}{op:UnOp}{T:TypeId}{x:MX}{ox:Operand}(ho:o.op=.unOp op T ox)(hx:iI x ox=true){d:D}
  (H:∀(ph:PH) (ρ:RM) (a:Value) (w:World),RepV ph ρ (X get x) a->∃v,iA P (Op.unary op a) w v w/\RepD ph d v):ic P o get m [] [] (.c (.d d)):=by
 refine ic.of_pure λm' h1 ph ρ w a hr hg=>?_;have r1:=jf hx (ph:=ph) (ρ:=ρ) (get:=get) (a:=a) λk hk=>hg k (by rw[ho];simp[Op.operands,hk]);obtain⟨v,hv,rv⟩:=H ph ρ _ w r1;refine⟨v,?_,by simpa only[RepV,RepC]using rv⟩;unfold execOp;rw[ho];exact hv.bind (fK _)
theorem iA.convert_int{T U:TypeId}{d:TypeDesc}{k k':IntKind}{j:Int}{w:World}(hT:P.underlying T=some d)(hU:P.underlying U=some (.int k)):
  iA P (convert T U (.int k' j)) w (.int k (k.wrap j)) w:=by
 unfold convert;refine(fZ hT).bind ((fZ hU).bind ?_);exact fK _
theorem R8{ph:PH}{ρ:RM}{m:Hp}{w:World}(H:HRel ph ρ m w.heap){B o:Nat}{cs:List D}(r:RepL ph cs ((hcells ph B).drop o)){j:Nat}{x:D}(e:cs[j]?=some x):
  ∃v,w.cell? ⟨B,o+j,none⟩=some v/\v.one1=true/\RepD ph x v:=by
 obtain⟨v,h1,h2,h3⟩:=r.get e;refine⟨v,?_,h2,h3⟩;rw[ay]at h1;unfold hcells at h1;cases hB:ph B with
 |none=>rw[hB]at h1;simp at h1
 | some ob=>
  rw[hB]at h1;cases ob with
  |cells c T fr=>
   rw[cell_of (H.pers B _ hB)];simpa using h1
  |_=>simp at h1
theorem Dz{α:Type}{l:List α}{n j:Nat}{v:α}(h:(l.take n)[j]?=some v):l[j]?=some v:=by
 rw[dz]at h;split at h
 ·exact h
 ·cases h
theorem R9{T:TypeId}{B o sz:Nat}{w:World}{vs:List Value}(hT:xC P T=some (true,sz))(hl:vs.length=sz)(h:∀j v,vs[j]?=some v->w.cell? ⟨B,o+j,none⟩=some v):
  iA P (loadVar T ⟨B,o,none⟩) w (.agg vs.toArray) w:=by
 obtain⟨d,i,h1,h2,h3,h4⟩:=IB hT;unfold loadVar;refine(iA.isAgg h1).bind ?_;rw[h3,aC rfl];refine(gF h2).bind ?_;rw[h4,<-hl];exact(gK h).bind (fK _)
theorem Ra{T:TypeId}{B o sz:Nat}{w:World}{v:Value}(hT:xC P T=some (false,sz))(h:w.cell? ⟨B,o,none⟩=some v):iA P (loadVar T ⟨B,o,none⟩) w v w:=by
 obtain⟨d,i,h1,h2,h3,h4⟩:=IB hT;unfold loadVar;refine(iA.isAgg h1).bind ?_;rw[h3];exact iA.load h
theorem IJ{α:Type}(cs:List α)(off sz:Nat)(h:off+sz<=cs.length):cut cs off sz=(cs.drop off).take sz:=by
 unfold cut;split
 ·rename_i hh;obtain⟨h1,h2⟩:=hh;subst h1;subst h2;simp
 ·rfl
theorem LA{α:Type}(cs:List α)(off sz:Nat)(h:off+sz<=cs.length):(cut cs off sz).length=sz:=by
 rw[IJ cs off sz h];simp;omega
theorem Rb{T:TypeId}{ag:Bool}{sz:Nat}{cs:List D}{off:Nat}{K:AV->Prop}(hT:xC P T=some (ag,sz))(hK:Dx ag sz cs off K):
  ∃v,K v/\∀{ph:PH} {ρ:RM} {m:Hp} {w:World} (H:HRel ph ρ m w.heap) {B o:Nat} (r:RepL ph cs ((hcells ph B).drop o)),∃vC,iA P (loadVar T ⟨B,o+off,none⟩) w vC w/\RepV ph ρ v vC:=by
 unfold Dx at hK;cases ag with
 | true=>
  obtain⟨h1,h2⟩:=hK;refine⟨_,h2,λ{ph ρ m w} H {B o} r=>?_⟩;have r':RepL ph (cut cs off sz) (((hcells ph B).drop o).drop off):=by
   rw[IJ cs off sz h1];exact(r.drop off).takeDs sz
  have hlen:=LA cs off sz h1;have hle:=r'.length;refine⟨.agg ((((hcells ph B).drop o).drop off).take sz).toArray,R9 hT (by simp[hlen]at hle⊢;omega) ?_,?_⟩
  ·intro j v hj;have hj':=Dz hj;have hjl:j<(cut cs off sz).length:=by
    rw[hlen];rcases aW j sz with h|h
    ·exact h
    ·rw[aS (by simp;omega)]at hj;cases hj
   obtain⟨u,e1,e2,e3⟩:=R8 (w:=w) H (B:=B) (o:=o+off) (cs:=cut cs off sz) (by rw[<-bO];exact r') (j:=j) (aA hjl);obtain⟨u',e1',e2',e3'⟩:=r'.get (aA hjl);rw[hj']at e1';cases e1';rw[e1];have:=e1
   -- the same cell
   unfold hcells at hj';cases hB:ph B with
   |none=>rw[hB]at hj';simp at hj'
   | some ob=>
    rw[hB]at hj';cases ob with
    |cells c T' fr=>
     rw[cell_of (H.pers B _ hB)]at this;simp only[ay,eQ]at hj';rw[show o+(off+j)=o+off+j from by omega]at hj';rw[hj']at this;exact this.symm
    |_=>simp at hj'
  ·simp only[RepV];refine⟨_,rfl,by simp[hlen]at hle⊢;omega,iJ.of_D ?_⟩;have:=r'.take;rw[hlen]at this;exact this
 | false=>
  simp only at hK;split at hK
  ·rename_i c hc;refine⟨_,hK,λ{ph ρ m w} H {B o} r=>?_⟩;obtain⟨v,e1,e2,e3⟩:=R8 (w:=w) H r hc;exact⟨v,Ra hT e1,by simpa only[RepV,RepC]using e3⟩
  ·exact hK.elim
theorem LB{T:TypeId}{ag:Bool}{sz:Nat}{cs:List AC}{off:Nat}{K:AV->Prop}(hT:xC P T=some (ag,sz))(hK:wN ag sz cs off K):
  ∃v,K v/\∀{ph:PH} {ρ:RM} {w:World} {B o:Nat} {vs:List Value} {U:TypeId} {fr:Nat × Nat} (hB:w.heap[B]?=some (.cells vs.toArray U fr)) (r:iJ ph ρ cs (vs.drop o)),
   ∃vC,iA P (loadVar T ⟨B,o+off,none⟩) w vC w/\RepV ph ρ v vC:=by
 unfold wN at hK;cases ag with
 | true=>
  obtain⟨h1,h2⟩:=hK;refine⟨_,h2,λ{ph ρ w B o vs U fr} hB r=>?_⟩;have r':iJ ph ρ (cut cs off sz) ((vs.drop o).drop off):=by
   rw[IJ cs off sz h1];exact(r.drop off).takeDs sz
  have hlen:=LA cs off sz h1;have hle:=r'.length;refine⟨.agg (((vs.drop o).drop off).take sz).toArray,R9 hT (by simp[hlen]at hle⊢;omega) ?_,?_⟩
  ·intro j v hj;have hj':=Dz hj;rw[cell_of hB];simp only[ay]at hj';rw[show o+off+j=o+(off+j)from by omega];simpa using hj'
  ·simp only[RepV];refine⟨_,rfl,by simp[hlen]at hle⊢;omega,?_⟩;have:=r'.take;rw[hlen]at this;exact this
 | false=>
  simp only at hK;split at hK
  ·rename_i c hc;refine⟨_,hK,λ{ph ρ w B o vs U fr} hB r=>?_⟩;obtain⟨v,e1,e2,e3⟩:=r.get hc;refine⟨v,Ra hT ?_,by simpa only[RepV]using e3⟩;rw[cell_of hB];simpa[ay]using e1
  ·exact hK.elim
theorem zK{T:TypeId}{ag:Bool}{sz:Nat}{cs:List AC}{off:Nat}{K:AV->Prop}(hT:xC P T=some (ag,sz))(hK:wN ag sz cs off K):
  ∃v,K v/\∀{ph:PH} {ρ:RM} {w:World} {vs:List Value} (hl:vs.length=cs.length) (r:iJ ph ρ cs vs),∃vC,iA P (part T vs.toArray off) w vC w/\RepV ph ρ v vC:=by
 obtain⟨d,i,h1,h2,h3,h4⟩:=IB hT;unfold wN at hK;cases ag with
 | true=>
  obtain⟨g1,g2⟩:=hK;refine⟨_,g2,λ{ph ρ w vs} hl r=>?_⟩;have r':iJ ph ρ (cut cs off sz) (vs.drop off):=by
   rw[IJ cs off sz g1];exact(r.drop off).takeDs sz
  have hlen:=LA cs off sz g1;refine⟨.agg ((vs.drop off).take sz).toArray,?_,?_⟩
  ·unfold part;refine(iA.isAgg h1).bind ?_;rw[h3];refine(gF h2).bind ?_;rw[h4];have e:vs.toArray.extract off (off+sz)=((vs.drop off).take sz).toArray:=by
    apply dD;simp[List.extract_eq_take_drop]
   rw[e];exact fK _
  ·simp only[RepV];refine⟨_,rfl,by simp[hlen];omega,?_⟩;have:=r'.take;rw[hlen]at this;exact this
 | false=>
  simp only at hK;split at hK
  ·rename_i c hc;refine⟨_,hK,λ{ph ρ w vs} hl r=>?_⟩;obtain⟨v,e1,e2,e3⟩:=r.get hc;refine⟨v,?_,by simpa only[RepV]using e3⟩;unfold part;refine(iA.isAgg h1).bind ?_;rw[h3];simp only[ai,if_false];rw[show vs.toArray[off]?=some v from by simpa using e1];exact fK _
  ·exact hK.elim
end
end Go.Abs
namespace Go.Abs
section
variable {P:Program} {get:Nat->AV} {m:Hp} {n:Nat}
theorem zm7{o:Oper}{T:TypeId}{ag:Bool}{sz:Nat}{x:MX}{ox:Operand}(ho:o.op=.load T ox)(hT:xC P T=some (ag,sz))(hx:iI x ox=true){K:AV->List Nat->Prop}
  (hK:match X get x with
  |.c (.d (.rp cs off))=>Dx ag sz cs off λv=>K v []
  |.c (.ptr b off)=>match m b with
   |.box cs=>wN ag sz cs off λv=>K v [b]
   |_=>False
  |.c (.ept s b i off)=>match m b with
   |.arr s' es=>s=s'/\(match es[i]? with|some e=>wN ag sz e off λv=>K v [b]|none=>False)
   |_=>False
  |_=>False):∃v rd,ic P o get m rd [] v/\K v rd:=by
 have base:∀(rd:List Nat) (v:AV) (H:∀m':Hp,(∀b,b∈rd->m' b=m b)->∀(h:PH) (ρ:RM) (w:World) (p:Value),HRel h ρ m' w.heap->RepV h ρ (X get x) p->
   ∃B off vC,p=.pointer (some ⟨B,off,none⟩)/\iA P (loadVar T ⟨B,off,none⟩) w vC w/\RepV h ρ v vC),ic P o get m rd [] v:=by
  intro rd v H;refine ic.of_pure λm' h1 ph ρ w a hr hg=>?_;have r1:=jf hx (ph:=ph) (ρ:=ρ) (get:=get) (a:=a) λk hk=>hg k (by rw[ho];simp[Op.operands,hk]);obtain⟨B,off,vC,e,hrun,rv⟩:=H m' h1 ph ρ w _ hr r1;refine⟨vC,?_,rv⟩;unfold execOp;rw[ho];refine fM (a:=vC) ?_ (fK _);show iA P (Instr.loadAt T (a.eval ox)) w vC w;rw[e];exact(fK (⟨B,off,none⟩:Addr)).bind hrun
 split at hK
 ·rename_i cs off ex;obtain⟨v,kv,H⟩:=Rb hT hK;refine⟨v,[],base [] v λm' h1 ph ρ w p hr rp=>?_,kv⟩;rw[ex]at rp;simp only[RepV,RepC,RepD]at rp;obtain⟨B,o',e,rl⟩:=rp;obtain⟨vC,h2,h3⟩:=H (ρ:=ρ) hr rl;exact⟨B,_,vC,e,h2,h3⟩
 ·rename_i b off ex;split at hK
  ·rename_i cs eb;obtain⟨v,kv,H⟩:=LB hT hK;refine⟨v,[b],base [b] v λm' h1 ph ρ w p hr rp=>?_,kv⟩;rw[ex]at rp;simp only[RepV,RepC]at rp;obtain⟨q,hq,e⟩:=rp;have ho:=hr.own b q hq;rw[h1 b (by simp),eb]at ho;obtain⟨vs,U,g1,g2,g3⟩:=ho;obtain⟨vC,h2,h3⟩:=H (o:=0) g1 (by simpa using g3);exact⟨q.1,off,vC,e,by simpa using h2,h3⟩
  ·exact hK.elim
 ·rename_i s b i off ex;split at hK
  ·rename_i s' es eb;obtain⟨es',hK⟩:=hK;subst es';split at hK
   ·rename_i e he;obtain⟨v,kv,H⟩:=LB hT hK;refine⟨v,[b],base [b] v λm' h1 ph ρ w p hr rp=>?_,kv⟩;rw[ex]at rp;simp only[RepV,RepC]at rp;obtain⟨q,hq,e⟩:=rp;have ho:=hr.own b q hq;rw[h1 b (by simp),eb]at ho;rcases ho with ho|⟨vs,U,g1,g2,g3,g5,g4⟩
    ·rw[ho.2]at he;simp at he
    ·have:=g4.get he;obtain⟨vC,h2,h3⟩:=H (o:=i*s) g1 this.2;exact⟨q.1,_,vC,e,h2,h3⟩
   ·exact hK.elim
  ·exact hK.elim
 ·exact hK.elim
theorem znY{o:Oper}{T:TypeId}{x:MX}{ox:Operand}(ho:o.op=.box T ox)(hx:iI x ox=true){ds:List D}(e:cellsD (X get x)=some ds):ic P o get m [] [] (.c (.d (.rp ds 0))):=by
 refine ic.of_value λm' h1 h2 ph ρ w a hr hg=>?_;have r1:=jf hx (ph:=ph) (ρ:=ρ) (get:=get) (a:=a) λk hk=>hg k (by rw[ho];simp[Op.operands,hk]);obtain⟨vs,e1,e2,e3⟩:=Kr r1 e;obtain⟨H,S⟩:=hr.pushP (.cells vs.toArray T);refine⟨_,ρ,{w with heap:=w.heap.push (.cells vs.toArray T)},.pointer (some ⟨w.heap.size,0,none⟩),?_,S,H,gD w,?_⟩
 ·unfold execOp;rw[ho];refine fM (a:=.pointer (some ⟨w.heap.size,0,none⟩)) ?_ (fK _);show iA P (Instr.box T (a.eval ox)) w _ _;unfold Instr.box newVar newRow;rw[e1];exact((gM _).bind (fK _)).bind (fK _)
 ·simp only[RepV,RepC,RepD];refine⟨w.heap.size,0,rfl,?_⟩;have:hcells (upd ph w.heap.size (some (.cells vs.toArray T))) w.heap.size=vs:=by simp[hcells,zaE]
  rw[this];exact RepL.mono' S.hle e3
theorem zm8{o:Oper}{T:TypeId}{x:MX}{ox:Operand}(ho:o.op=.box T ox)(hx:iI x ox=true){cs:List AC}(e:vJ (X get x)=some cs)(hn:m n=.non):
  ic P o get m [] [(n,.box cs)] (.c (.ptr n 0)):=by
 refine ic.of_value λm' h1 h2 ph ρ w a hr hg=>?_;have r1:=jf hx (ph:=ph) (ρ:=ρ) (get:=get) (a:=a) λk hk=>hg k (by rw[ho];simp[Op.operands,hk]);obtain⟨vs,e1,e2,e3⟩:=Dv r1 e;have hn':m' n=.non:=(h2 (n,.box cs) (by simp)).trans hn
 obtain⟨H,S⟩:=hr.pushO (.cells vs.toArray T) hn' vs.length (blk:=.box cs) (by simp)
  ⟨vs,T,Dr _ _,e2,iJ.mono (fu ph) (CY ((hr.dom n).1 hn')) _ _ e3⟩
 refine⟨_,_,{w with heap:=w.heap.push (.cells vs.toArray T)},.pointer (some ⟨w.heap.size,0,none⟩),?_,S,H,gD w,?_⟩
 ·unfold execOp;rw[ho];refine fM (a:=.pointer (some ⟨w.heap.size,0,none⟩)) ?_ (fK _);show iA P (Instr.box T (a.eval ox)) w _ _;unfold Instr.box newVar newRow;rw[e1];exact((gM _).bind (fK _)).bind (fK _)
 ·simp only[RepV,RepC];exact⟨_,zaE _ _ _,rfl⟩
theorem zmm{o:Oper}{T:TypeId}{i:TypeInfo}{z:List D}(ho:o.op=.alloc T)(hi:P.info? T=some i)(hz:i.zero.isSome=true)(hc:xz z (zeroOf i)=true)(hn:m n=.non):
  ic P o get m [] [(n,.box (z.map .d))] (.c (.ptr n 0)):=by
 refine ic.of_value λm' h1 h2 ph ρ w a hr hg=>?_;obtain⟨zv,ez⟩:=bI.1 hz;have e0:zeroOf i=zv.cells.toList:=by simp[zeroOf,ez]
 obtain⟨c1,c2⟩:=Dy hc;have hn':m' n=.non:=(h2 (n,.box (z.map .d)) (by simp)).trans hn
 obtain⟨H,S⟩:=hr.pushO (.cells zv.cells T) hn' zv.cells.size (blk:=.box (z.map .d)) (by simp)
  ⟨zv.cells.toList,T,by simp,by rw[<-e0];simpa using c1,iJ.of_D (by rw[<-e0];exact c2 _)⟩
 refine⟨_,_,{w with heap:=w.heap.push (.cells zv.cells T)},.pointer (some ⟨w.heap.size,0,none⟩),?_,S,H,gD w,?_⟩
 ·unfold execOp;rw[ho];refine fM (a:=.pointer (some ⟨w.heap.size,0,none⟩)) ?_ (fK _);show iA P (Instr.alloc T true (.tuple #[])) w _ _;unfold Instr.alloc newVar newRow;refine(gG hi ez).bind ?_;exact((gM _).bind (fK _)).bind (fK _)
 ·simp only[RepV,RepC];exact⟨_,zaE _ _ _,rfl⟩
theorem EA{α:Type}:∀(vs cs:List α) (o j:Nat),o+vs.length<=cs.length->(splice cs o vs)[j]?=if o<=j/\j<o+vs.length then vs[j-o]? else cs[j]?
|[],cs,o,j,h=>by simp only[splice,List.length_nil];rw[aB (by omega)]
| v::vs,cs,o,j,h=>by
 simp only[List.length_cons]at h;simp only[splice,List.length_cons];rw[EA vs (cs.set o v) (o+1) j (by simp;omega)];by_cases hj:j=o
 ·subst hj;rw[aB (by omega),aC (by omega)];simp[List.getElem?_set];omega
 ·by_cases h1:o+1<=j/\j<o+1+vs.length
  ·rw[aC h1,aC (by omega)];rw[show j-o=(j-(o+1))+1 from by omega,List.getElem?_cons_succ]
  ·rw[aB h1,aB (by omega),List.getElem?_set_ne (Ne.symm hj)]
theorem LC{α:Type}(cs vs:List α)(o:Nat)(h:o+vs.length<=cs.length):splice cs o vs=cs.take o++vs++cs.drop (o+vs.length):=by
 apply cu;intro j;rw[EA vs cs o j h];by_cases h1:j<o
 ·rw[aB (by omega),dA,dF (by simp;omega),dz,aC h1]
 ·by_cases h2:j<o+vs.length
  ·rw[aC ⟨by omega,h2⟩,dA,bY (by simp;omega),dF (by simp;omega)];congr 1;simp;omega
  ·rw[aB (by omega),bY (by simp;omega),ay];congr 1;simp;omega
theorem put_eq{α:Type}(cs l:List α)(o:Nat)(h:o+l.length<=cs.length):put cs o l=splice cs o l:=by
 unfold put;split
 ·rename_i hh;obtain⟨h1,h2⟩:=hh;subst h1;rw[LC cs l 0 h];simp[h2]
 ·rfl
theorem LD{α:Type}(cs l:List α)(o:Nat)(h:o+l.length<=cs.length):(put cs o l).length=cs.length:=by
 rw[put_eq cs l o h,BP]
theorem iJ.splice{ph:PH}{ρ:RM}:∀{l:List AC} {vs:List Value} {cs:List AC} {us:List Value} {o:Nat},iJ ph ρ cs us->iJ ph ρ l vs->vs.length=l.length->
 iJ ph ρ (splice cs o l) (splice us o vs)
|[],[],_,_,_,r,_,_=>by simpa[Abs.splice]using r
|[],_::_,_,_,_,_,_,e=>by simp at e
|_::_,[],_,_,_,_,r,_=>by simp[iJ]at r
|c::l,v::vs,cs,us,o,r,r',e=>by
 simp only[iJ]at r';simp only[Abs.splice];exact iJ.splice (r.set r'.1.1 r'.1.2) r'.2 (by simpa using e)
theorem zlh{T:TypeId}{i:TypeInfo}{B o:Nat}{us:List Value}{U:TypeId}{w:World}{v:Value}{vs:List Value}(hT:P.info? T=some i)(hv:v.cells=vs.toArray)(hl:vs.length=i.size)
  (hB:w.heap[B]?=some (.cells us.toArray U (0,0))) (hle:o+vs.length<=us.length) (h1:∀x,x∈vs->x.one1=true) (h0:vs≠[]):
  iA P (storeVar T ⟨B,o,none⟩ v) w () (World.cellsAt w B (Abs.splice us o vs) U):=by
 unfold storeVar;refine(gF hT).bind ?_;rw[hv];simp only[List.size_toArray];rw[aB (by simp[hl])];have:=iA.storeCells (P:=P) o vs 0 us w hB (by simpa using hle) h1 h0;simpa using this
theorem zmn {o:Oper} {T:TypeId} {i:TypeInfo} {sz:Nat} {x y:MX} {ox oy:Operand} (ho:o.op=.store T ox oy) (hT:P.info? T=some i) (hs:i.size=sz) (h0:0<sz) (hx:iI x ox=true) (hy:iI y oy=true)
  {K:List (Nat × Blk)->Prop} (hK:match X get x,vJ (X get y)with
  |.c (.ptr b off),some l=>match m b with
   |.box cs=>l.length=sz/\off+sz<=cs.length/\K [(b,.box (put cs off l))]
   |_=>False
  |.c (.ept s b i off),some l=>match m b with
   |.arr s' es=>s=s'/\l.length=sz/\off+sz<=s/\(match es[i]? with|some e=>K [(b,.arr s (es.set i (put e off l)))]|none=>False)
   |_=>False
  |_,_=>False):∃wr,ic P o get m [] wr (.c (.d .any))/\K wr:=by
 have base:∀(b:Nat) (blk:Blk) (hl:blk≠.non) (H:∀m':Hp,m' b=m b->∀(h:PH) (ρ:RM) (w:World) (p v:Value),HRel h ρ m' w.heap->RepV h ρ (X get x) p->RepV h ρ (X get y) v->
   ∃q off us U vs,ρ b=some q/\Real (m' b) q/\p=.pointer (some ⟨q.1,off,none⟩)/\w.heap[q.1]?=some (.cells us.toArray U (0,0))/\v.cells=vs.toArray/\vs.length=sz/\off+sz<=us.length/\(∀x,x∈vs->x.one1=true)/\
    zaI h ρ q blk (w.heap.setIfInBounds q.1 (.cells (Abs.splice us off vs).toArray U (0,0)))),ic P o get m [] [(b,blk)] (.c (.d .any)):=by
  intro b blk hl H;refine ic.of_skip λm' h1 h2 ph ρ w a hr hg=>?_;have r1:=jf hx (ph:=ph) (ρ:=ρ) (get:=get) (a:=a) λk hk=>hg k (by rw[ho];simp[Op.operands,hk]);have r2:=jf hy (ph:=ph) (ρ:=ρ) (get:=get) (a:=a) λk hk=>hg k (by rw[ho];simp[Op.operands,hk]);obtain⟨q,off,us,U,vs,e1,e2,e3,e4,e5,e6,e7,e8,e9⟩:=H m' (h2 (b,blk) (by simp)) ph ρ w _ _ hr r1 r2;obtain⟨K,S⟩:=hr.set (.cells (Abs.splice us off vs).toArray U (0,0)) e1 e2 hl e9;refine⟨ph,ρ,World.cellsAt w q.1 (Abs.splice us off vs) U,?_,S,K,gD w⟩;unfold execOp;rw[ho];refine fM (a:=()) ?_ (fK _);show iA P (Instr.storeAt T (a.eval ox) (a.eval oy)) w () _;rw[e3];refine(fK (⟨q.1,off,none⟩:Addr)).bind ?_;exact zlh hT e5 (by rw[e6,hs]) e4 (by omega) e8 (by intro h;rw[h]at e6;simp at e6;omega)
 split at hK
 ·rename_i b off l ex ey;split at hK
  ·rename_i cs eb;obtain⟨k1,k2,kk⟩:=hK;refine⟨_,base b (.box (put cs off l)) (by simp) λm' h1 ph ρ w p v hr rp rv=>?_,kk⟩;rw[ex]at rp;simp only[RepV,RepC]at rp;obtain⟨q,hq,e⟩:=rp;obtain⟨vs,c1,c2,c3⟩:=Dv rv ey;have how:=hr.own b q hq;rw[h1,eb]at how;have hreal:Real (m' b) q:=by rw[h1,eb];trivial
   have hlt:=hr.real_lt hq hreal;obtain⟨us,U,g1,g2,g3⟩:=how;refine⟨q,off,us,U,vs,hq,hreal,e,g1,c1,by omega,by omega,iJ.one c3 c2,_,U,Hz _ _ hlt,?_,?_⟩
   ·rw[BP,LD _ _ _ (by omega)];exact g2
   ·rw[put_eq _ _ _ (by omega)];exact iJ.splice g3 c3 c2
  ·exact hK.elim
 ·rename_i s b i off l ex ey;split at hK
  ·rename_i s' es eb;obtain⟨k0,k1,k2,hK⟩:=hK;subst k0;split at hK
   ·rename_i e he;refine⟨_,base b (.arr s (es.set i (put e off l))) (by simp) λm' h1 ph ρ w p v hr rp rv=>?_,hK⟩;rw[ex]at rp;simp only[RepV,RepC]at rp;obtain⟨q,hq,e'⟩:=rp;obtain⟨vs,c1,c2,c3⟩:=Dv rv ey;have how:=hr.own b q hq;rw[h1,eb]at how;rcases how with how|⟨us,U,g1,g2,g3,g5,g4⟩
    ·rw[how.2]at he;simp at he
    have hil:i<es.length:=by
     rcases aW i es.length with h|h
     ·exact h
     ·rw[aS h]at he;cases he
    have hreal:Real (m' b) q:=by rw[h1,eb];show 0<q.2;omega
    have hlt:=hr.real_lt hq hreal;have hge:=g4.get he;have htot:(i+1)*s<=q.2*s:=bn s (by omega);have e1:(i+1)*s=i*s+s:=by rw[bC,bu]
    refine⟨q,i*s+off,us,U,vs,hq,hreal,e',g1,c1,by omega,by omega,iJ.one c3 c2,.inr ⟨_,U,Hz _ _ hlt,?_,?_,?_,?_⟩⟩
    ·rw[BP];exact g2
    ·simpa using g3
    ·simpa using g5
    ·-- the row of elements with one turned
     have key:∀(es:List (List AC)) (us:List Value) (i:Nat) (e:List AC),iR ph ρ s es us->es[i]?=some e->iR ph ρ s (es.set i (put e off l)) (Abs.splice us (i*s+off) vs):=by
      intro es
      induction es with
      |nil=>intro us i e _ h;simp at h
      | cons f es ih=>
       intro us i e r h;simp only[iR]at r;cases i with
       | zero=>
        simp at h;subst h;simp only[List.set_cons_zero,iR];have hle:=r.2.1.length;have hpe:off+l.length<=f.length:=by omega
        refine⟨by rw[LD _ _ _ hpe];exact r.1,?_,?_⟩
        ·rw[put_eq _ _ _ hpe];have:=iJ.splice (o:=off) r.2.1 c3 c2;simpa using this
        ·have:(Abs.splice us (0*s+off) vs).drop s=us.drop s:=by
          apply cu;intro j;rw[ay,ay,EA _ _ _ _ (by omega),aB (by omega)]
         rw[this];exact r.2.2
       | succ i=>
        simp only[List.getElem?_cons_succ]at h;simp only[List.set_cons_succ,iR];have hle:=r.2.1.length;have htot:=r.2.2.total;simp only[List.length_drop]at htot;have hil:i<es.length:=by
         rcases aW i es.length with h'|h'
         ·exact h'
         ·rw[aS h']at h;cases h
        have hm:(i+1)*s<=es.length*s:=bn s (by omega);have e1:(i+1)*s=i*s+s:=by rw[bC,bu]
        have hin:(i+1)*s+off+vs.length<=us.length:=by omega
        refine⟨r.1,?_,?_⟩
        ·have h2:=r.2.1.take;have:(Abs.splice us ((i+1)*s+off) vs).take f.length=us.take f.length:=by
          apply cu;intro j;rw[dz,dz];by_cases hj:j<f.length
          ·rw[aC hj,aC hj,EA _ _ _ _ hin,aB (by omega)]
          ·rw[aB hj,aB hj]
         rw[<-this]at h2;have h3:=h2.more ((Abs.splice us ((i+1)*s+off) vs).drop f.length);rwa[dC]at h3
        ·have:(Abs.splice us ((i+1)*s+off) vs).drop s=Abs.splice (us.drop s) (i*s+off) vs:=by
          apply cu;intro j;rw[ay,EA _ _ _ _ hin,EA _ _ _ _ (by simp;omega),ay];by_cases hj:i*s+off<=j/\j<i*s+off+vs.length
          ·rw[aC (by omega),aC hj];congr 1;omega
          ·rw[aB (by omega),aB hj]
         rw[this];exact ih _ _ _ r.2.2 h
     exact key es us i e g4 he
   ·exact hK.elim
  ·exact hK.elim
 ·exact hK.elim
end
end Go.Abs
namespace Go.Abs
section
variable {P:Program} {get:Nat->AV} {m:Hp} {n:Nat}
theorem LF:∀(vs us:List Value) (off k:Nat),off+k+vs.length<=us.length->
 (vs.toArray.zipIdx k).foldl (λcs (x:Value × Nat)=>cs.setIfInBounds (off+x.2) x.1) us.toArray=(Abs.splice us (off+k) vs).toArray
|[],us,off,k,h=>by rw[<-Array.foldl_toList];simp[Abs.splice,Array.toList_zipIdx]
|v::vs,us,off,k,h=>by
 simp only[List.length_cons]at h;have:=LF vs (us.set (off+k) v) off (k+1) (by simp;omega);simp only[Abs.splice];rw[show off+k+1=off+(k+1)from by omega,<-this];rw[<-Array.foldl_toList,<-Array.foldl_toList];simp[Array.toList_zipIdx,List.zipIdx_cons]
theorem IK{ph:PH}{ρ:RM}{a:Act}{pl pl':Nat->Option (Nat × Nat)}(hpl:∀i x,pl i=some x->pl' i=some x):∀{ps:List (Nat × Nat × MX)} {os:List (Nat × Operand)} {cs cs':List AC} {us:List Value},
 Ca P pl ps os=true->(∀k,Operand.tmp k∈os.map (·.2)->RepV ph ρ (get k) (a.tmps.getD k undef))->BQ get cs ps=some cs'->iJ ph ρ cs us->us.length=cs.length->
 ∃us',Instr.fill pl' us.toArray (os.map λx=>(x.1,a.eval x.2))=some us'.toArray/\us'.length=cs'.length/\iJ ph ρ cs' us'
|[],[],cs,cs',us,h,hg,hf,r,hl=>by
 simp only[BQ]at hf;cases hf;exact⟨us,rfl,hl,r⟩
|[],_::_,_,_,_,h,_,_,_,_=>by simp[Ca]at h
|(off,sz,x)::ps,[],_,_,_,h,_,_,_,_=>by simp[Ca]at h
| (off,sz,x)::ps,(i,o)::os,cs,cs',us,h,hg,hf,r,hl=>by
 simp only[Ca,aG,aY]at h;obtain⟨⟨h1,h2⟩,h3⟩:=h;simp only[BQ]at hf;split at hf
 ·rename_i l hc;split at hf
  ·rename_i hh;obtain⟨g1,g2⟩:=hh;have rv:=jf h2 (ph:=ph) (ρ:=ρ) (get:=get) (a:=a) λk hk=>hg k (by simp[hk]);obtain⟨vs,c1,c2,c3⟩:=Dv rv hc;have hle:off+vs.length<=us.length:=by omega
   obtain⟨us',e1,e2,e3⟩:=IK hpl (us:=Abs.splice us off vs) h3 (λk hk=>hg k (by simp at hk⊢;exact .inr hk)) hf
    (by rw[put_eq _ _ _ (by omega)];exact iJ.splice r c3 c2) (by rw[BP,LD _ _ _ (by omega),hl])
   refine⟨us',?_,e2,e3⟩;simp only[List.map_cons,Instr.fill,hpl _ _ h1];rw[c1];simp only[List.size_toArray];rw[aB (by simp;omega)];have:=LF vs us off 0 (by omega);simp only[Nat.add_zero]at this;rw[this];exact e1
  ·cases hf
 ·cases hf
theorem iA.mapM{α β:Type}{w:World}{f:α->Sem β}{g:α->β}:∀(xs:List α),(∀x,x∈xs->iA P (f x) w (g x) w)->iA P (xs.mapM f) w (xs.map g) w
|[],_=>by simp only[List.mapM_nil];exact fK _
|x::xs,h=>by
 rw[List.mapM_cons];exact(h x (by simp)).bind ((iA.mapM xs λy hy=>h y (by simp[hy])).bind (fK _))
theorem iA.mapMA{α β:Type}{w:World}{f:α->Sem β}{g:α->β}(xs:Array α)(h:∀x,x∈xs.toList->iA P (f x) w (g x) w):iA P (xs.mapM f) w (xs.map g) w:=by
 rw[dZ];have:=(iA.mapM xs.toList h).map (f:=List.toArray);have e:(xs.toList.map g).toArray=xs.map g:=by apply dD;simp
 rw[e]at this;exact this
theorem zlr {o:Oper} {T:TypeId} {os:Array (Nat × Operand)} {z:List D} {ps:List (Nat × Nat × MX)} (ho:o.op=.build T os) (hc:iP P (.build z ps) (.build T os)=true) {cs:List AC}
  (e:BQ get (z.map .d) ps=some cs):ic P o get m [] [] (.ag cs):=by
 refine ic.of_pure λm' h1 ph ρ w a hr hg=>?_;have hg':∀k,Operand.tmp k∈os.toList.map (·.2)->RepV ph ρ (get k) (a.tmps.getD k undef):=λk hk=>hg k (by rw[ho];simpa[Op.operands]using hk);simp only[iP]at hc;split at hc
 ·rename_i i fs hi hu;simp only[aG]at hc;obtain⟨⟨⟨h2,h3⟩,h4⟩,h5⟩:=hc;obtain⟨zv,ez⟩:=bI.1 h2;have e0:zeroOf i=zv.cells.toList:=by simp[zeroOf,ez]
  rw[e0]at h3;obtain⟨c1,c2⟩:=Dy h3;obtain⟨us',f1,f2,f3⟩:=IK (P:=P) (pl':=Ce P fs) (λ_ _ h=>h) h5 hg' e (us:=zv.cells.toList) (iJ.of_D (c2 ph)) (by simpa using c1);refine⟨.agg us'.toArray,?_,by simp only[RepV];exact⟨us',rfl,f2,f3⟩⟩;unfold execOp;rw[ho];refine fM (a:=.agg us'.toArray) ?_ (fK _);show iA P (Instr.build T (os.map λx=>(x.1,a.eval x.2))) w _ w;unfold Instr.build;refine(gG hi ez).bind ((fZ hu).bind ?_);have hpl:iA P (fs.mapM λf=>do pure (f.offset,<-sizeOf f.type)) w (fs.map λ(f:Field)=>(f.offset,((P.info? f.type).map (·.size)).getD 0)) w:=by
   refine iA.mapMA fs λf hf=>?_;have:=ah.1 h4 f hf;obtain⟨j,hj⟩:=bI.1 this;rw[hj];exact(gF hj).bind (fK _)
  refine hpl.bind ?_;have hpl':(λx:Nat=>(fs.map λ(f:Field)=>(f.offset,((P.info? f.type).map (·.size)).getD 0))[x]?)=λx:Nat=>(fs[x]?).map λ(f:Field)=>(f.offset,((P.info? f.type).map (·.size)).getD 0):=by
   funext x;simp
  obtain⟨us2,f1',f2',f3'⟩:=IK (P:=P) (pl':=λx:Nat=>(fs.map λ(f:Field)=>(f.offset,((P.info? f.type).map (·.size)).getD 0))[x]?) (pl:=Ce P fs)
   (λj x hx=>by
    rw[congrFun hpl' j];unfold Ce at hx;split at hx
    ·rename_i f hf;simp only[aV]at hx;obtain⟨t,ht,hx⟩:=hx;simp[hf,ht,hx]
    ·cases hx) h5 hg' e (us:=zv.cells.toList) (iJ.of_D (c2 ph)) (by simpa using c1)
  have e3:us2=us':=by
   have key:∀(l:List (Nat × Value)) (c c1 c2:Array Value),Instr.fill (Ce P fs) c l=some c1->Instr.fill (λx:Nat=>(fs.map λ(f:Field)=>(f.offset,((P.info? f.type).map (·.size)).getD 0))[x]?) c l=some c2->c1=c2:=by
    intro l
    induction l with
    |nil=>intro c c1 c2 h h';simp only[Instr.fill]at h h';cases h;cases h';rfl
    | cons y l ih=>
     obtain⟨j,v⟩:=y;intro c c1 c2 h h';simp only[Instr.fill]at h h';cases hs:Ce P fs j with
     |none=>rw[hs]at h;cases h
     | some x=>
      have:(fs.map λ(f:Field)=>(f.offset,((P.info? f.type).map (·.size)).getD 0))[j]?=some x:=by
       rw[congrFun hpl' j];unfold Ce at hs;split at hs
       ·rename_i f hf;simp only[aV]at hs;obtain⟨t,ht,hx⟩:=hs;simp[hf,ht,hx]
       ·cases hs
      rw[hs]at h;rw[this]at h';simp only at h h';split at h
      ·cases h
      ·rename_i hh;rw[aB hh]at h';exact ih _ _ _ h h'
   have:=key _ _ _ _ f1 f1';simpa using this.symm
  rw[e3]at f1';rw[show(os.map λx=>(x.1,a.eval x.2)).toList=os.toList.map λx=>(x.1,a.eval x.2)from by simp];rw[show zv.cells=zv.cells.toList.toArray from by simp,f1'];exact fK _
 ·rename_i i n' e' hi hu;split at hc
  ·rename_i j hj;simp only[aG]at hc;obtain⟨⟨h2,h3⟩,h5⟩:=hc;obtain⟨zv,ez⟩:=bI.1 h2;have e0:zeroOf i=zv.cells.toList:=by simp[zeroOf,ez]
   rw[e0]at h3;obtain⟨c1,c2⟩:=Dy h3;obtain⟨us',f1,f2,f3⟩:=IK (P:=P) (pl':=λk=>some (k*j.size,j.size)) (λ_ _ h=>h) h5 hg' e (us:=zv.cells.toList) (iJ.of_D (c2 ph)) (by simpa using c1);refine⟨.agg us'.toArray,?_,by simp only[RepV];exact⟨us',rfl,f2,f3⟩⟩;unfold execOp;rw[ho];refine fM (a:=.agg us'.toArray) ?_ (fK _);show iA P (Instr.build T (os.map λx=>(x.1,a.eval x.2))) w _ w;unfold Instr.build;refine(gG hi ez).bind ((fZ hu).bind ((gF hj).bind ?_));rw[show(os.map λx=>(x.1,a.eval x.2)).toList=os.toList.map λx=>(x.1,a.eval x.2)from by simp];rw[show zv.cells=zv.cells.toList.toArray from by simp,f1];exact fK _
  ·cases hc
 ·cases hc
end
end Go.Abs
namespace Go.Abs
section
variable {P:Program} {get:Nat->AV} {m:Hp} {n:Nat}
theorem LG{ph:PH}{ρ:RM}{a:Act}{s:Nat}:∀{xs:List MX} {os:List (Nat × Operand)} {es:List (List AC)} {k:Nat} {us:List Value},
 Cb xs k os=true->(∀j,Operand.tmp j∈os.map (·.2)->RepV ph ρ (get j) (a.tmps.getD j undef))->rV get s xs=some es->us.length=(k+xs.length)*s->
 ∃vs:List Value,Instr.fill (λi=>some (i*s,s)) us.toArray (os.map λx=>(x.1,a.eval x.2))=some (us.take (k*s)++vs).toArray/\vs.length=xs.length*s/\iR ph ρ s es vs/\es.length=xs.length
|[],[],es,k,us,h,hg,he,hl=>by
 simp only[rV]at he;cases he;refine⟨[],?_,by simp,by simp[iR],rfl⟩;simp only[List.map_nil,Instr.fill];rw[aD (by simp at hl;omega)];simp
|[],_::_,_,_,_,h,_,_,_=>by simp[Cb]at h
|_::_,[],_,_,_,h,_,_,_=>by simp[Cb]at h
| x ::xs,(i,o)::os,es,k,us,h,hg,he,hl=>by
 simp only[Cb,aG,aY]at h;obtain⟨⟨h1,h2⟩,h3⟩:=h;subst h1;simp only[rV]at he;split at he
 ·rename_i l r hc hr;split at he
  ·rename_i hs;cases he;have rv:=jf h2 (ph:=ph) (ρ:=ρ) (get:=get) (a:=a) λk hk=>hg k (by simp[hk]);obtain⟨ws,c1,c2,c3⟩:=Dv rv hc;simp only[List.length_cons]at hl;have e1:(i+(xs.length+1))*s=i*s+s+xs.length*s:=by rw[bC,bC,bu];omega
   have hle:i*s+ws.length<=us.length:=by omega
   obtain⟨vs,f1,f2,f3,f4⟩:=LG (us:=Abs.splice us (i*s) ws) h3 (λk hk=>hg k (by simp at hk⊢;exact .inr hk)) hr (by
    rw[BP,hl];congr 1;omega)
   refine⟨ws++vs,?_,?_,?_,?_⟩
   ·simp only[List.map_cons,Instr.fill];rw[c1];simp only[List.size_toArray];rw[aB (by simp;omega)];have:=LF ws us (i*s) 0 (by omega);simp only[Nat.add_zero]at this;rw[this,f1];have e2:(i+1)*s=i*s+s:=by rw[bC,bu]
    rw[e2,LC _ _ _ hle];congr 2;rw[<-dA];congr 1;rw[List.take_append_of_le_length (by simp;omega)];rw[aD (by simp;omega)]
   ·simp only[aX,List.length_cons];rw[f2,bC,bu];omega
   ·simp only[iR];refine⟨hs,c3.more vs,?_⟩;rw[dN (by omega),List.drop_of_length_le (by omega)];simpa using f3
   ·simp[f4]
  ·cases he
 ·cases he
theorem Rc{s:Nat}:∀{xs:List MX} {es:List (List D)},lS get s xs=some es->rV get s xs=some (es.map (·.map .d))
|[],es,h=>by simp only[lS]at h;cases h;rfl
| x ::xs,es,h=>by
 simp only[lS]at h;split at h
 ·rename_i l r h1 h2;split at h
  ·rename_i hs;cases h;simp only[rV];unfold cellsD at h1;cases hc:vJ (X get x)with
   |none=>rw[hc]at h1;cases h1
   |some cs=>
    rw[hc]at h1;have:=Du h1;subst this;rw[Rc h2];simp[hs]
  ·cases h
 ·cases h
theorem Re{T:TypeId}{len:Nat}{os:Array (Nat × Operand)}{e:TypeId}{i:TypeInfo}{s:Nat}{w:World}{a:Act}(hu:P.underlying T=some (.slice e))(hi:P.info? e=some i)(hs:i.size=s)
  (hz:i.zero.isSome=true) (hlen:len*s<=16777216):
  ∃us:List Value,us.length=len*s/\∀vs:List Value,Instr.fill (λi=>some (i*s,s)) us.toArray (os.toList.map λx=>(x.1,a.eval x.2))=some vs.toArray->
   iA P (Instr.buildSlice T len (os.map λx=>(x.1,a.eval x.2))) w (.slice (some ⟨w.heap.size,0,none⟩) len len) {w with heap:=w.heap.push (.cells vs.toArray e)}:=by
 obtain⟨zv,ez⟩:=bI.1 hz
 have last:∀(msg:String) (zs:Array Value) (vs:List Value),Instr.fill (λi=>some (i*s,s)) ((Array.range (len*s)).map (zs[· %zs.size]!)) (os.toList.map λx=>(x.1,a.eval x.2))=some vs.toArray->
   iA P (match Instr.fill (λi=>some (i*s,s)) ((Array.range (len*s)).map (zs[· %zs.size]!)) ((os.map λx=>(x.1,a.eval x.2)).toList)with
    |some cells=>do
     let r<-newRow e cells
     Pure.pure (Value.slice (some r) len len)
    |_=>stuck msg) w (.slice (some ⟨w.heap.size,0,none⟩) len len) {w with heap:=w.heap.push (.cells vs.toArray e)}:=by
  intro msg zs vs hf;rw[show(os.map λx=>(x.1,a.eval x.2)).toList=os.toList.map λx=>(x.1,a.eval x.2)from by simp];rw[hf];unfold newRow;exact((gM _).bind (fK _)).bind (fK _)
 by_cases h0:len*s=0
 ·refine⟨((Array.range (len*s)).map (λx=>(#[]:Array Value)[x%(#[]:Array Value).size]!)).toList,by simp,λvs hf=>?_⟩;unfold Instr.buildSlice;refine(fZ hu).bind ((gF hi).bind ?_);rw[hs];rw[aB (by omega)];dsimp only;rw[aC h0];refine(fK _).bind ?_;rw[au]at hf;exact last _ #[] vs hf
 ·refine⟨((Array.range (len*s)).map (λx=>zv.cells[x%zv.cells.size]!)).toList,by simp,λvs hf=>?_⟩;unfold Instr.buildSlice;refine(fZ hu).bind ((gF hi).bind ?_);rw[hs];rw[aB (by omega)];dsimp only;rw[aB h0];refine(gG hi ez).bind ((fK _).bind ?_);rw[au]at hf;exact last _ zv.cells vs hf
theorem EB{T:TypeId}{i:TypeInfo}(h:yT P T=some i):∃e,P.underlying T=some (.slice e)/\P.info? e=some i:=by
 unfold yT at h;split at h
 ·rename_i e he;exact⟨e,he,h⟩
 ·cases h
theorem zkh{o:Oper}{T:TypeId}{len:Nat}{os:Array (Nat × Operand)}{s:Nat}{xs:List MX}(ho:o.op=.buildSlice T len os)(hc:iP P (.buildSl s xs) (.buildSlice T len os)=true){es:List (List D)}
  (e:lS get s xs=some es):ic P o get m [] [] (.c (.d (.sl true s es))):=by
 refine ic.of_value λm' h1 h2 ph ρ w a hr hg=>?_;have hg':∀k,Operand.tmp k∈os.toList.map (·.2)->RepV ph ρ (get k) (a.tmps.getD k undef):=λk hk=>hg k (by rw[ho];simpa[Op.operands]using hk);simp only[iP]at hc;split at hc
 ·rename_i i hi;simp only[aG,aY,aI]at hc;obtain⟨⟨⟨⟨⟨⟨c1,c2⟩,c3⟩,c4⟩,c5⟩,c7⟩,c6⟩:=hc;obtain⟨et,hu,hi'⟩:=EB hi;obtain⟨us,hus,hrun⟩:=Re (os:=os) (w:=w) (a:=a) hu hi' c1 c2 c5;obtain⟨vs,f1,f2,f3,f4⟩:=LG (us:=us) c6 hg' (Rc e) (by rw[hus,<-c4];simp);simp only[bR,List.take_zero,List.nil_append,aU]at f1 f4;obtain⟨H,S⟩:=hr.pushP (.cells vs.toArray et);refine⟨_,ρ,{w with heap:=w.heap.push (.cells vs.toArray et)},.slice (some ⟨w.heap.size,0,none⟩) len len,?_,S,H,gD w,?_⟩
  ·unfold execOp;rw[ho];refine fM ?_ (fK _);exact hrun vs f1
  ·simp only[RepV,RepC,RepD];have hlen:es.length=len:=by omega
   refine⟨some ⟨w.heap.size,0,none⟩,len,by rw[hlen],by omega,λ_=>hlen.symm,?_,λh=>(by cases h),λp hp _=>(by cases hp;rfl),?_⟩
   ·unfold zah;omega
   ·have e4:cellsAt (upd ph w.heap.size (some (.cells vs.toArray et))) (some ⟨w.heap.size,0,none⟩)=vs:=by simp[cellsAt,hcells,zaE]
    rw[e4];have:=iR.mono S.hle (fw ρ) _ _ f3;exact iR.to_E this
 ·cases hc
theorem zjR{o:Oper}{T:TypeId}{len:Nat}{os:Array (Nat × Operand)}{s:Nat}{xs:List MX}(ho:o.op=.buildSlice T len os)(hc:iP P (.buildSlM s xs) (.buildSlice T len os)=true){es:List (List AC)}
  (e:rV get s xs=some es) (hn:m n=.non):ic P o get m [] [(n,.arr s es)] (.c (.msl s n 0 xs.length)):=by
 refine ic.of_value λm' h1 h2 ph ρ w a hr hg=>?_;have hg':∀k,Operand.tmp k∈os.toList.map (·.2)->RepV ph ρ (get k) (a.tmps.getD k undef):=λk hk=>hg k (by rw[ho];simpa[Op.operands]using hk);have hn':m' n=.non:=(h2 (n,.arr s es) (by simp)).trans hn;simp only[iP]at hc;split at hc
 ·rename_i i hi;simp only[aG,aY,aI]at hc;obtain⟨⟨⟨⟨⟨⟨c1,c2⟩,c3⟩,c4⟩,c5⟩,c7⟩,c6⟩:=hc;obtain⟨et,hu,hi'⟩:=EB hi;obtain⟨us,hus,hrun⟩:=Re (os:=os) (w:=w) (a:=a) hu hi' c1 c2 c5;obtain⟨vs,f1,f2,f3,f4⟩:=LG (us:=us) c6 hg' e (by rw[hus,<-c4];simp);simp only[bR,List.take_zero,List.nil_append]at f1 f4
  obtain⟨H,S⟩:=hr.pushO (.cells vs.toArray et) hn' len (blk:=.arr s es) (by simp)
   (.inr ⟨vs,et,Dr _ _,by rw[f2,c4],by omega,by unfold zah;omega,iR.mono (fu ph) (CY ((hr.dom n).1 hn')) _ _ f3⟩)
  refine⟨_,_,{w with heap:=w.heap.push (.cells vs.toArray et)},.slice (some ⟨w.heap.size,0,none⟩) len len,?_,S,H,gD w,?_⟩
  ·unfold execOp;rw[ho];refine fM ?_ (fK _);exact hrun vs f1
  ·simp only[RepV,RepC];refine⟨_,some ⟨w.heap.size,0,none⟩,zaE _ _ _,by rw[c4];rfl,by rw[c4];simp,λ_=>by simp,λq hq _=>by cases hq;rfl⟩
 ·cases hc
theorem zmp{o:Oper}{T:TypeId}{f off:Nat}{x:MX}{ox:Operand}(ho:o.op=.fieldAddr T ox f)(hc:iP P (.faddr off x) (.fieldAddr T ox f)=true){K:AV->Prop}
  (hK:match X get x with
  |.c (.ptr b o)=>K (.c (.ptr b (o+off)))
  |.c (.ept s b i o)=>K (.c (.ept s b i (o+off)))
  |.c (.d (.rp cs o))=>K (.c (.d (.rp cs (o+off))))
  |_=>False):∃v,ic P o get m [] [] v/\K v:=by
 simp only[iP,aG]at hc;obtain⟨c0,hx⟩:=hc;split at c0
 ·rename_i off' U i hf;simp only[aG,aY,bne_iff_ne]at c0;obtain⟨c1,c2⟩:=c0;subst c1;unfold IE at hf;split at hf
  ·rename_i fs hu;split at hf
   ·rename_i fd hfd;simp only[aV]at hf;obtain⟨t,ht,hf⟩:=hf;injection hf with h1 h2
    injection h2 with h2 h3
    subst h1 h3;have base:∀(v:AV) (H:∀(h:PH) (ρ:RM) (p:Value),RepV h ρ (X get x) p->∃B q,p=.pointer (some ⟨B,q,none⟩)/\RepV h ρ v (.pointer (some ⟨B,q+fd.offset,none⟩))),ic P o get m [] [] v:=by
     intro v H;refine ic.of_pure λm' h1 ph ρ w a hr hg=>?_;have r1:=jf hx (ph:=ph) (ρ:=ρ) (get:=get) (a:=a) λk hk=>hg k (by rw[ho];simp[Op.operands,hk]);obtain⟨B,q,e,rv⟩:=H ph ρ _ r1;refine⟨_,?_,rv⟩;unfold execOp;rw[ho];refine fM ?_ (fK _);show iA P (Instr.fieldAt T (a.eval ox) f) w _ w;rw[e];unfold Instr.fieldAt;refine(fZ hu).bind ?_;simp only[hfd];refine(fK (⟨B,q,none⟩:Addr)).bind ?_;unfold fieldPlace;refine fM (a:=(⟨B,q+fd.offset,none⟩:Addr)) ?_ (fK _);refine(gF ht).bind ?_;rw[aB c2,addr_add];exact fK _
    split at hK
    ·rename_i b q ex;refine⟨_,base _ λh ρ p rp=>?_,hK⟩;rw[ex]at rp;simp only[RepV,RepC]at rp⊢;obtain⟨y,h1,h2⟩:=rp;exact⟨y.1,q,h2,y,h1,rfl⟩
    ·rename_i s b i' q ex;refine⟨_,base _ λh ρ p rp=>?_,hK⟩;rw[ex]at rp;simp only[RepV,RepC]at rp⊢;obtain⟨y,h1,h2⟩:=rp;exact⟨y.1,_,h2,y,h1,by rw[Nat.add_assoc]⟩
    ·rename_i cs q ex;refine⟨_,base _ λh ρ p rp=>?_,hK⟩;rw[ex]at rp;simp only[RepV,RepC,RepD]at rp⊢;obtain⟨B,y,h1,h2⟩:=rp;exact⟨B,_,h1,B,y,by rw[Nat.add_assoc],h2⟩
    ·exact hK.elim
   ·cases hf
  ·cases hf
 ·cases c0
theorem zmq{o:Oper}{T:TypeId}{f off sz:Nat}{ag:Bool}{x:MX}{ox:Operand}(ho:o.op=.field T ox f)(hc:iP P (.field ag off sz x) (.field T ox f)=true){K:AV->Prop}{cs:List AC}
  (ex:X get x=.ag cs) (hK:wN ag sz cs off K):∃v,ic P o get m [] [] v/\K v:=by
 simp only[iP,aG]at hc;obtain⟨c0,hx⟩:=hc;split at c0
 ·rename_i off' U i hf;simp only[aG,aY]at c0;obtain⟨c1,c2⟩:=c0;subst c1;unfold IE at hf;split at hf
  ·rename_i fs hu;split at hf
   ·rename_i fd hfd;simp only[aV]at hf;obtain⟨t,ht,hf⟩:=hf;injection hf with h1 h2
    injection h2 with h2 h3
    subst h1 h2;obtain⟨v,kv,H⟩:=zK c2 hK;refine⟨v,ic.of_pure λm' h1 ph ρ w a hr hg=>?_,kv⟩;have r1:=jf hx (ph:=ph) (ρ:=ρ) (get:=get) (a:=a) λk hk=>hg k (by rw[ho];simp[Op.operands,hk]);rw[ex]at r1;simp only[RepV]at r1;obtain⟨vs,e1,e2,e3⟩:=r1;obtain⟨vC,g1,g2⟩:=H (w:=w) e2 e3;refine⟨vC,?_,g2⟩;unfold execOp;rw[ho];refine fM ?_ (fK _);show iA P (Instr.field T (a.eval ox) f) w _ w;rw[e1];unfold Instr.field;refine(fZ hu).bind ?_;simp only[hfd];exact(fK vs.toArray).bind g1
   ·cases hf
  ·cases hf
 ·cases c0
theorem zoj{T:TypeId}{n:Nat}{i:TypeInfo}(h:Kv P T=some (n,i)):∃e,P.underlying T=some (.array n e)/\P.info? e=some i:=by
 unfold Kv at h;split at h
 ·rename_i n' e he;simp only[aV]at h;obtain⟨t,ht,h⟩:=h;cases h;exact⟨e,he,ht⟩
 ·cases h
theorem zlk{o:Oper}{T:TypeId}{s:Nat}{x i:MX}{ox oi:Operand}(ho:o.op=.indexAddr T ox oi)(hc:iP P (.iaddrS s x i) (.indexAddr T ox oi)=true){K:AV->Prop}
  (hK:match X get x,X get i with
  |.c (.d (.sl _ s' es)),.c (.d (.int _ j))=>s=s'/\0<=j/\(match es[j.toNat]? with|some e=>K (.c (.d (.rp e 0)))|none=>False)
  |.c (.msl s' b off len),.c (.d (.int _ j))=>s=s'/\0<=j/\j<len/\K (.c (.ept s b (off+j.toNat) 0))
  |_,_=>False):∃v,ic P o get m [] [] v/\K v:=by
 simp only[iP,aG]at hc;obtain⟨⟨c0,hx⟩,hi⟩:=hc;split at c0
 ·rename_i e he;simp only[aY]at c0;obtain⟨et,hu,hei⟩:=EB he
  have base:∀(v:AV) (j:Int) (k:IntKind) (ei:X get i=.c (.d (.int k j))) (hj:0<=j)
    (H:∀(h:PH) (ρ:RM) (p:Value),RepV h ρ (X get x) p->∃B q len cap,p=.slice (some ⟨B,q,none⟩) len cap/\j<(len:Int)/\RepV h ρ v (.pointer (some ⟨B,q+j.toNat*s,none⟩))),ic P o get m [] [] v:=by
   intro v j k ei hj H;refine ic.of_pure λm' h1 ph ρ w a hr hg=>?_;have r1:=jf hx (ph:=ph) (ρ:=ρ) (get:=get) (a:=a) λk hk=>hg k (by rw[ho];simp[Op.operands,hk]);have r2:=jf hi (ph:=ph) (ρ:=ρ) (get:=get) (a:=a) λk hk=>hg k (by rw[ho];simp[Op.operands,hk]);rw[ei]at r2;simp only[RepV,RepC,RepD]at r2;obtain⟨B,q,len,cap,e1,e2,rv⟩:=H ph ρ _ r1;refine⟨_,?_,rv⟩;unfold execOp;rw[ho];refine fM ?_ (fK _);show iA P (Instr.indexAt T (a.eval ox) (a.eval oi)) w _ w;rw[e1,r2.1];unfold Instr.indexAt;refine(fK (k,j)).bind ((fZ hu).bind ?_);refine(fK (some (⟨B,q,none⟩:Addr),len,et)).bind ?_;refine(fZ hu).bind ?_;simp only;rw[aC ⟨hj,e2⟩];refine(gF hei).bind ?_;rw[addr_add,c0];exact fK _
  split at hK
  ·rename_i fl s' es k j ex ei;obtain⟨k1,k2,hK⟩:=hK;subst k1;split at hK
   ·rename_i e0 he0;refine⟨_,base _ j k ei k2 λh ρ p rp=>?_,hK⟩;rw[ex]at rp;simp only[RepV,RepC,RepD]at rp⊢;obtain⟨a,cap,r1,r2,r3,r4,r5,r6,r7⟩:=rp;have hjl:j.toNat<es.length:=by
     rcases aW j.toNat es.length with h|h
     ·exact h
     ·rw[aS h]at he0;cases he0
    cases a with
    |none=>have:=(r5 rfl).1;subst this;simp at hjl
    |some q=>
     obtain⟨B,off,spot⟩:=q;have:=r6 _ rfl (by omega);simp only at this;subst this;have hg:=r7.get he0;refine⟨B,off,es.length,cap,r1,by omega,B,off+j.toNat*s,by simp,?_⟩;simp only[cellsAt]at hg;rw[bO]at hg;exact hg.2
   ·exact hK.elim
  ·rename_i s' b off len k j ex ei;obtain⟨k1,k2,k3,hK⟩:=hK;subst k1;refine⟨_,base _ j k ei k2 λh ρ p rp=>?_,hK⟩;rw[ex]at rp;simp only[RepV,RepC]at rp⊢;obtain⟨p',a,r1,r2,r3,r4,_⟩:=rp;have ha:=r4 (by omega);subst ha;refine⟨p'.1,off*s,len,p'.2-off,r2,k3,p',r1,?_⟩;rw[bC,Nat.add_zero]
  ·exact hK.elim
 ·cases c0
theorem zll{o:Oper}{T:TypeId}{len s:Nat}{x i:MX}{ox oi:Operand}(ho:o.op=.indexAddr T ox oi)(hc:iP P (.iaddrA len s x i) (.indexAddr T ox oi)=true){K:AV->Prop}
  (hK:match X get x,X get i with
  |.c (.ptr b o),.c (.d (.int _ j))=>0<=j/\j<len/\K (.c (.ptr b (o+j.toNat*s)))
  |.c (.ept s' b i' o),.c (.d (.int _ j))=>0<=j/\j<len/\K (.c (.ept s' b i' (o+j.toNat*s)))
  |.c (.d (.rp cs o)),.c (.d (.int _ j))=>0<=j/\j<len/\K (.c (.d (.rp cs (o+j.toNat*s))))
  |_,_=>False):∃v,ic P o get m [] [] v/\K v:=by
 simp only[iP,aG]at hc;obtain⟨⟨c0,hx⟩,hi⟩:=hc;split at c0
 ·rename_i n' e he;simp only[aG,aY]at c0;obtain⟨c1,c2⟩:=c0;subst c1;obtain⟨et,hu,hei⟩:=zoj he
  have base:∀(v:AV) (j:Int) (k:IntKind) (ei:X get i=.c (.d (.int k j))) (hj:0<=j) (hj':j<n')
    (H:∀(h:PH) (ρ:RM) (p:Value),RepV h ρ (X get x) p->∃B q,p=.pointer (some ⟨B,q,none⟩)/\RepV h ρ v (.pointer (some ⟨B,q+j.toNat*s,none⟩))),ic P o get m [] [] v:=by
   intro v j k ei hj hj' H;refine ic.of_pure λm' h1 ph ρ w a hr hg=>?_;have r1:=jf hx (ph:=ph) (ρ:=ρ) (get:=get) (a:=a) λk hk=>hg k (by rw[ho];simp[Op.operands,hk]);have r2:=jf hi (ph:=ph) (ρ:=ρ) (get:=get) (a:=a) λk hk=>hg k (by rw[ho];simp[Op.operands,hk]);rw[ei]at r2;simp only[RepV,RepC,RepD]at r2;obtain⟨B,q,e1,rv⟩:=H ph ρ _ r1;refine⟨_,?_,rv⟩;unfold execOp;rw[ho];refine fM ?_ (fK _);show iA P (Instr.indexAt T (a.eval ox) (a.eval oi)) w _ w;rw[e1,r2.1];unfold Instr.indexAt;refine(fK (k,j)).bind ((fZ hu).bind ?_);refine fM (a:=(some (⟨B,q,none⟩:Addr),n',et)) (w':=w) ?_ ?_
   ·exact fK _
   refine(fZ hu).bind ?_;simp only;rw[aC ⟨hj,hj'⟩];refine(gF hei).bind ?_;rw[addr_add,c2];exact fK _
  split at hK
  ·rename_i b q k j ex ei;obtain⟨k1,k2,hK⟩:=hK;refine⟨_,base _ j k ei k1 k2 λh ρ p rp=>?_,hK⟩;rw[ex]at rp;simp only[RepV,RepC]at rp⊢;obtain⟨y,h1,h2⟩:=rp;exact⟨y.1,q,h2,y,h1,rfl⟩
  ·rename_i s' b i' q k j ex ei;obtain⟨k1,k2,hK⟩:=hK;refine⟨_,base _ j k ei k1 k2 λh ρ p rp=>?_,hK⟩;rw[ex]at rp;simp only[RepV,RepC]at rp⊢;obtain⟨y,h1,h2⟩:=rp;exact⟨y.1,_,h2,y,h1,by rw[Nat.add_assoc]⟩
  ·rename_i cs q k j ex ei;obtain⟨k1,k2,hK⟩:=hK;refine⟨_,base _ j k ei k1 k2 λh ρ p rp=>?_,hK⟩;rw[ex]at rp;simp only[RepV,RepC,RepD]at rp⊢;obtain⟨B,y,h1,h2⟩:=rp;exact⟨B,_,h1,B,y,by rw[Nat.add_assoc],h2⟩
  ·exact hK.elim
 ·cases c0
theorem znb{o:Oper}{T:TypeId}{ag:Bool}{len s:Nat}{x i:MX}{ox oi:Operand}(ho:o.op=.index T ox oi)(hc:iP P (.idxA ag len s x i) (.index T ox oi)=true){K:AV->Prop}{cs:List AC}{k:IntKind}{j:Int}
  (ex:X get x=.ag cs) (ei:X get i=.c (.d (.int k j))) (hj:0<=j) (hj':j<len) (hK:wN ag s cs (j.toNat*s) K):∃v,ic P o get m [] [] v/\K v:=by
 simp only[iP,aG]at hc;obtain⟨⟨c0,hx⟩,hi⟩:=hc;split at c0
 ·rename_i n' e hu;simp only[aG,aY]at c0;obtain⟨c1,c2⟩:=c0;subst c1;obtain⟨d,it,t1,t2,t3,t4⟩:=IB c2;obtain⟨v,kv,H⟩:=zK c2 hK;refine⟨v,ic.of_pure λm' h1 ph ρ w a hr hg=>?_,kv⟩;have r1:=jf hx (ph:=ph) (ρ:=ρ) (get:=get) (a:=a) λk hk=>hg k (by rw[ho];simp[Op.operands,hk]);have r2:=jf hi (ph:=ph) (ρ:=ρ) (get:=get) (a:=a) λk hk=>hg k (by rw[ho];simp[Op.operands,hk]);rw[ei]at r2;simp only[RepV,RepC,RepD]at r2;rw[ex]at r1;simp only[RepV]at r1;obtain⟨vs,e1,e2,e3⟩:=r1;obtain⟨vC,g1,g2⟩:=H (w:=w) e2 e3;refine⟨vC,?_,g2⟩;unfold execOp;rw[ho];refine fM ?_ (fK _);show iA P (Instr.index T (a.eval ox) (a.eval oi)) w _ w;rw[e1,r2.1];unfold Instr.index;refine(fK (k,j)).bind ((fZ hu).bind ?_);simp only;rw[aC ⟨hj,hj'⟩];refine(gF t2).bind ?_;rw[t4];exact g1
 ·cases c0
theorem znc{o:Oper}{T:TypeId}{x i:MX}{ox oi:Operand}(ho:o.op=.index T ox oi)(hc:iP P (.idxS x i) (.index T ox oi)=true){t:fI}{k:IntKind}{j:Int}{b:UInt8}
  (ex:X get x=.c (.d (.str t))) (ei:X get i=.c (.d (.int k j))) (hj:0<=j) (hb:t.data.toList[j.toNat]?=some b):ic P o get m [] [] (.c (.d (.int .u8 b.toNat))):=by
 simp only[iP,aG]at hc;obtain⟨⟨c0,hx⟩,hi⟩:=hc;split at c0
 ·rename_i hu;refine ic.of_pure λm' h1 ph ρ w a hr hg=>?_;have r1:=jf hx (ph:=ph) (ρ:=ρ) (get:=get) (a:=a) λk hk=>hg k (by rw[ho];simp[Op.operands,hk]);have r2:=jf hi (ph:=ph) (ρ:=ρ) (get:=get) (a:=a) λk hk=>hg k (by rw[ho];simp[Op.operands,hk]);rw[ei]at r2;rw[ex]at r1;simp only[RepV,RepC,RepD]at r1 r2;refine⟨.int .u8 b.toNat,?_,?_⟩
  ·unfold execOp;rw[ho];refine fM ?_ (fK _);show iA P (Instr.index T (a.eval ox) (a.eval oi)) w _ w;rw[r1.1,r2.1];unfold Instr.index;refine(fK (k,j)).bind ((fZ hu).bind ?_);simp only;rw[aC hj];have hb':t[j.toNat]?=some b:=by
    rw[<-hb];show(if h:_ then _ else _)=_;by_cases h:j.toNat<t.size
    ·have:j.toNat<t.data.size:=h;simp[h,this,bJ];rfl
    ·have h2:¬j.toNat<t.data.size:=h;simp[h,h2]
   rw[hb'];exact fK _
  ·simp only[RepV,RepC,RepD];have:=b.toNat_lt;refine⟨trivial,by simp[IntKind.min,IntKind.signed],?_⟩;simp only[IntKind.max,IntKind.signed,IntKind.bits];simp;omega
 ·cases c0
end
end Go.Abs
