/- Of ours. -/
import Derived.Test.YtlfjlokfciejnaaGreatJ05
import Derived.Defers
import Derived.Test.YtlfjlokfciejnaaGreatChecked
set_option maxRecDepth 20000
set_option maxHeartbeats 4000000
set_option linter.unusedVariables false
set_option linter.unusedSectionVars false
set_option linter.unusedSimpArgs false
set_option linter.defProp false
open List renaming length->lN
open Bool renaming true->tT,false->oK
open Option renaming some->sS,none->nN
namespace Go.Abs
variable {ag:Bool}{cs:List AC}
variable [jE]
section
variable (T:Nat->TY)
def XM(ty:Nat):Go.Op->ni
|.box t v=>.boxM (gX T (T t) v)
|.buildSlice t _ ⟨ps⟩=>match T t with
 |.l e=>.buildSlM (wS (T e)) (J2 T e ps)
 |_=>jF
|.makeSlice t l c=>match T t with
 |.l e=>.mkslM (gZ T 9 (T e)) (MK (T e)) (gX T .s l) (gX T .s c)
 |_=>jF
|.call ⟨.value (.func f),⟨xs⟩,⟨ts⟩⟩=>.callM f (D7 T xs ts)
|op=>Py T [] 0 ty op
def MP(all:List Oper):List Oper->List MO
|[]=>[]
|⟨d,op,ty,_,_,g⟩::l=>⟨match g with|none=>nN|some (j,b)=>sS (ML j all,b),d,XM T ty op⟩::MP all l
def hC(B:List (Nat × List Nat)):Code->MC
|.region i ⟨os⟩ d=>match d with
 |true=>.regd (gL [] B i) (MP T os os)
 |false=>.reg (MP T os os)
|.seq a b=>.seq (hC B a) (hC B b)
|.cond c a b=>.cond (gX T .s c) (hC B a) (hC B b)
|.block i b=>.block i (hC B b)
|.loop b=>.loop (hC B b)
|.exit i=>.exit i
|.ret=>.ret
|_=>.skip
end
attribute [simp] XM MP hC
abbrev ER:=AV × List Nat × List (Nat × A_) × Nat
def J4(ag:Bool)(sz:Nat)(cs:o7)(off:Nat):Option AV:=match ag with
|true=>if off+sz<=lN cs then sS (.ag (cut cs off sz))else nN
|false=>match cs[off]? with
 |some c=>sS (.c c)
 |none=>nN
def Pz{sz:Nat}{cs:o7}{off:Nat}{v:AV}{K:AV->Prop}(e:J4 ag sz cs off=sS v)(k:K v):Ae ag sz cs off K:=by
 unfold J4 at e;unfold Ae;cases ag with
 |true=>
  simp only at e⊢;split at e
  next h=>cases e;exact⟨h,k⟩
  .cases e
 |false=>
  simp only at e⊢;split at e
  .cases e;rename_i c hc;rw[hc];exact k
  .cases e
def MQ(ag:Bool)(sz:Nat)(cs:oQ)(off:Nat):Option AV:=match ag with
|true=>if off+sz<=lN cs then sS (.ag ((cut cs off sz).map .d))else nN
|false=>match cs[off]? with
 |some c=>sS (.c (.d c))
 |none=>nN
def XN{sz:Nat}{cs:oQ}{off:Nat}{v:AV}{K:AV->Prop}(e:MQ ag sz cs off=sS v)(k:K v):E8 ag sz cs off K:=by
 unfold MQ at e;unfold E8;cases ag with
 |true=>
  simp only at e⊢;split at e
  next h=>cases e;exact⟨h,k⟩
  .cases e
 |false=>
  simp only at e⊢;split at e
  .cases e;rename_i c hc;rw[hc];exact k
  .cases e
def J5(get:Nat->AV)(m:Hp)(s:Nat)(y:MX):Option (List o7 × List Nat):=match X get y with
|.c (.d (.sl _ s' ys))=>if s=s' then sS (ys.map (·.map .d),[])else nN
|.c (.x_ s' b off len)=>match m b with
 |.arr s'' es=>if s=s'/\s=s''/\off+len<=lN es then sS ((es.drop off).take len,[b])else nN
 |_=>nN
|_=>nN
def Da(get:Nat->AV)(d:Nat):Option MX->Option Nat
|none=>sS d
|some x=>match X get x with
 |.c (.d (.int _ j))=>if 0<=j then sS j.toNat else nN
 |_=>nN
def IM{get:Nat->AV}{d:Nat}{K:Nat->Prop}{x:Option MX}{j:Nat}(e:Da get d x=sS j)(k:K j):bnd get d K x:=by
 cases x with
 |none=>simp only[Da]at e;cases e;exact k
 | some x=>
  simp only[Da]at e;simp only[bnd];split at e
  next q hq=>
   split at e
   next h=>cases e;rw[hq];exact⟨h,k⟩
   .cases e
  .cases e
def xD:List Nat->Nat->Nat->Nat
|[],_,_=>0
|x::l,b,i=>if x=b then i else xD l b (i+1)
def zb:List Nat->Nat->Bool
|[],_=>oK
|x::l,b=>if x=b then tT else zb l b
mutual
def AC.refs:AC->List Nat
|.ptr b _=>[b]
|.ept _ b _ _=>[b]
|.x_ _ b _ _=>[b]
|.map b=>[b]
|.fn _ cs=>AC.refsL cs
|_=>[]
def AC.refsL:List AC->List Nat
|[]=>[]
|c::cs=>gJ c.refs (AC.refsL cs)
end
mutual
def AV.refs:AV->List Nat
|.c x=>x.refs
|.ag cs=>AC.refsL cs
|.a? vs=>AV.refsL vs
def AV.refsL:List AV->List Nat
|[]=>[]
|v::vs=>gJ v.refs (AV.refsL vs)
end
def XP:List (List AC)->List Nat
|[]=>[]
|e::es=>gJ (AC.refsL e) (XP es)
def A_.refs:A_->oO
|.box cs=>AC.refsL cs
|.arr _ es=>XP es
|_=>[]
def yo(h:Hp):Nat->List Nat->List Nat->List Nat
|0,_,seen=>seen
|_+1,[],seen=>seen
|f+1,b::todo,seen=>if zb seen b then yo h f todo seen else yo h f (gJ (h b).refs todo) (gJ seen [b])
def CY(f:Nat->Nat)(h:Hp):List Nat->List A_
|[]=>[]
|j::l=>(h j).N_ f::CY f h l
abbrev CE:=FuncId->oo->oV->Option (AV × List A_)
def QA(C:CE)(h:Hp)(n:Nat)(f:FuncId)(vs:oo):Option ER:=
 let L:=yo h 10000 (AV.refsL vs) [];let g:=λb=>xD L b 0;let q:=λb=>Z' L (g b)==b&&zb L b;let bs:=CY g h L;let ι:=AV.b? g vs
 if decide L.Nodup&&L.all (λi=>decide (i<n))&&AV.lvs q vs&&AV.lts (lN L) ι&&L.all (λj=>(h j).lv q&&(h j).tag !=1)&&bs.all (·.lt (lN L))then
  match C f ι bs with
  |some (v,_d)=>
   let d:=lN _d-lN L;let L':=L++S_ n d
   sS (v.N_ (Z' L'),[],ng (Z' L') L' _d,n+d)
  |none=>nN
 else nN
def mE(C:CE)(get:Nat->AV)(h:Hp)(n:Nat):ni->Option ER
|.mv x=>sS (X get x,[],[],n)
| .pick c a b=>match X get c with
 |.c (.d (.bool t))=>match t with
  |true=>sS (X get a,[],[],n)
  |false=>sS (X get b,[],[],n)
 |_=>nN
|.binI op x y=>match X get x,X get y with
 |.c (.d (.int k a)),.c (.d (.int k' b))=>if k=k' then(match Hd op k a b with|some d=>sS (.c (.d d),[],[],n)|none=>nN)else nN
 |_,_=>nN
|.divI op x y=>match X get x,X get y with
 |.c (.d (.int k a)),.c (.d (.int k' b))=>if k=k'/\b≠0 then(match op with|.quo=>sS (.c (.d (.int k (k.wrap (a.tdiv b)))),[],[],n)|.rem=>sS (.c (.d (.int k (a.tmod b))),[],[],n)|_=>nN)else nN
 |_,_=>nN
|.binS op x y=>match X get x,X get y with
 |.c (.d (.str a)),.c (.d (.str b))=>(match Hf op a b with|some d=>sS (.c (.d d),[],[],n)|none=>nN)
 |_,_=>nN
|.cat x y=>match X get x,X get y with
 |.c (.d (.str a)),.c (.d (.str b))=>if a.size+b.size<=zaf then sS (.c (.d (.str (a++b))),[],[],n)else nN
 |_,_=>nN
|.binB op x y=>match X get x,X get y with
 |.c (.d (.bool a)),.c (.d (.bool b))=>(match Hg op a b with|some d=>sS (.c (.d d),[],[],n)|none=>nN)
 |_,_=>nN
|.not x=>match X get x with
 |.c (.d (.bool a))=>sS (.c (.d (.bool (!a))),[],[],n)
 |_=>nN
|.neg x=>match X get x with
 |.c (.d (.int k a))=>sS (.c (.d (.int k (k.wrap (0-a)))),[],[],n)
 |_=>nN
|.convI k x=>match X get x with
 |.c (.d (.int _ a))=>sS (.c (.d (.int k (k.wrap a))),[],[],n)
 |_=>nN
|.boxM x=>match wo (X get x)with
 |some cs=>sS (.c (.ptr n 0),[],[(n,.box cs)],n+1)
 |none=>nN
|.alloc z=>sS (.c (.ptr n 0),[],[(n,.box (z.map .d))],n+1)
|.build z ps=>match DT get (z.map .d) ps with
 |some cs=>sS (.ag cs,[],[],n)
 |none=>nN
|.buildSlM s xs=>match tq get s xs with
 |some es=>sS (.c (.x_ s n 0 (lN xs)),[],[(n,.arr s es)],n+1)
 |none=>nN
| .load ag sz x=>match X get x with
 |.c (.d (.rp cs off))=>(match MQ ag sz cs off with|some v=>sS (v,[],[],n)|none=>nN)
 |.c (.ptr b off)=>match h b with
  |.box cs=>(match J4 ag sz cs off with|some v=>sS (v,[b],[],n)|none=>nN)
  |_=>nN
 |.c (.ept s b i off)=>match h b with
  |.arr s' es=>if s=s' then(match es[i]? with|some e=>(match J4 ag sz e off with|some v=>sS (v,[b],[],n)|none=>nN)|none=>nN)else nN
  |_=>nN
 |_=>nN
| .store sz a v=>match X get a,wo (X get v)with
 |.c (.ptr b off),sS l=>match h b with
  |.box cs=>if lN l=sz/\off+sz<=lN cs then sS (.c (.d .any),[],[(b,.box (put cs off l))],n)else nN
  |_=>nN
 |.c (.ept s b i off),sS l=>match h b with
  |.arr s' es=>if s=s'/\lN l=sz/\off+sz<=s then(match es[i]? with|some e=>sS (.c (.d .any),[],[(b,.arr s (es.set i (put e off l)))],n)|none=>nN)else nN
  |_=>nN
 |_,_=>nN
|.faddr off x=>match X get x with
 |.c (.ptr b o)=>sS (.c (.ptr b (o+off)),[],[],n)
 |.c (.ept s b i o)=>sS (.c (.ept s b i (o+off)),[],[],n)
 |.c (.d (.rp cs o))=>sS (.c (.d (.rp cs (o+off))),[],[],n)
 |_=>nN
|.iaddrS s x i=>match X get x,X get i with
 |.c (.d (.sl _ s' es)),.c (.d (.int _ j))=>if s=s'/\0<=j then(match es[j.toNat]? with|some e=>sS (.c (.d (.rp e 0)),[],[],n)|none=>nN)else nN
 |.c (.x_ s' b off len),.c (.d (.int _ j))=>if s=s'/\0<=j/\j<len then sS (.c (.ept s b (off+j.toNat) 0),[],[],n)else nN
 |_,_=>nN
|.idxS x i=>match X get x,X get i with
 |.c (.d (.str t)),.c (.d (.int _ j))=>if 0<=j then(match t.data.toList[j.toNat]? with|some b=>sS (.c (.d (.int .u8 b.toNat)),[],[],n)|none=>nN)else nN
 |_,_=>nN
| .len x=>match X get x with
 |.c (.d (.sl _ _ es))=>sS (.c (.d (.int .i64 (lN es))),[],[],n)
 |.c (.x_ _ b off l)=>match h b with
  |.arr _ es=>if off+l<=lN es then sS (.c (.d (.int .i64 l)),[b],[],n)else nN
  |_=>nN
 |_=>nN
|.lenS x=>match X get x with
 |.c (.d (.str t))=>sS (.c (.d (.int .i64 t.size)),[],[],n)
 |_=>nN
|.nilck x=>match X get x with
 |.c (.ptr b o)=>sS (.c (.ptr b o),[],[],n)
 |.c (.ept s b i o)=>sS (.c (.ept s b i o),[],[],n)
 |.c (.d (.rp cs o))=>sS (.c (.d (.rp cs o)),[],[],n)
 |_=>nN
| .extract x i=>match X get x with
 |.a? vs=>match vs[i]? with
  |some v=>sS (v,[],[],n)
  |none=>nN
 |_=>nN
| .slice s x lo hi=>match X get x with
 |.c (.d (.sl e s' es))=>(match Da get (lN es) hi,Da get 0 lo with
  |some u,sS l=>if s=s'/\l<=u/\u<=lN es then sS (.c (.d (.sl (e&&hi.isNone) s ((es.take u).drop l))),[],[],n)else nN
  |_,_=>nN)
 |.c (.x_ s' b off len)=>(match Da get len hi,Da get 0 lo with
  |some u,sS l=>if s=s'/\l<=u/\u<=len then sS (.c (.x_ s b (off+l) (u-l)),[],[],n)else nN
  |_,_=>nN)
 |_=>nN
| .sliceS x lo hi=>match X get x with
 |.c (.d (.str t))=>(match Da get t.size hi,Da get 0 lo with
  |some u,sS l=>if l<=u/\u<=t.size then sS (.c (.d (.str (t.extract l u))),[],[],n)else nN
  |_,_=>nN)
 |_=>nN
| .append s bytes x y=>match X get x with
 |.c (.x_ s' b off len)=>match h b,J5 get h s y with
  |.arr s'' es,sS (ys,rd)=>if s=s'/\s=s''/\off=0/\len<=lN es/\(len+lN ys)*bytes<=70368744177664/\(rd=[]\/rd=[b]\/b∉rd)then sS (.c (.x_ s n 0 (len+lN ys)),rd,[(b,.dead),(n,.arr s (es.take len++ys))],n+1)else nN
  |_,_=>nN
 |.c (.d (.sl tT s' []))=>match J5 get h s y with
  |some (ys,rd)=>if lN ys*bytes<=70368744177664 then sS (.c (.x_ s n 0 (lN ys)),rd,[(n,.arr s ys)],n+1)else nN
  |none=>nN
 |_=>nN
| .copy s x y=>match X get x with
 |.c (.x_ s' b off len)=>match h b,J5 get h s y with
  |.arr s'' es,sS (ys,rd)=>if s=s'/\s=s''/\off=0/\len<=lN es/\lN ys<=len then sS (.c (.d (.int .i64 (lN ys))),rd,[(b,.arr s (ys++es.drop (lN ys)))],n)else nN
  |_,_=>nN
 |_=>nN
|.mkslM z bytes x y=>match X get x,X get y with
 |.c (.d (.int .i64 j)),.c (.d (.int .i64 l))=>if 0<=j/\j<=l/\l*bytes<=70368744177664 then sS (.c (.x_ (lN z) n 0 j.toNat),[],[(n,.arr (lN z) ((List.replicate j.toNat z).map (·.map .d)))],n+1)else nN
 |_,_=>nN
|.minI mx x y=>match X get x,X get y with
 |.c (.d (.int k a)),.c (.d (.int k' b))=>if k=k' then sS (.c (.d (.int k (zR mx a b))),[],[],n)else nN
 |_,_=>nN
|.isNilP ne x=>match X get x with
 |.c (.d (.sc (.pointer nN)))=>sS (.c (.d (.bool !ne)),[],[],n)
 |.c (.d (.rp _ _))=>sS (.c (.d (.bool ne)),[],[],n)
 |.c (.ptr _ _)=>sS (.c (.d (.bool ne)),[],[],n)
 |.c (.ept _ _ _ _)=>sS (.c (.d (.bool ne)),[],[],n)
 |_=>nN
|.callM f xs=>QA C h n f (xs.map (X get))
|_=>nN
mutual
def AC.ren_back{f g:Nat->Nat}{q:Nat->Bool}(H:∀b,q b=tT->f (g b)=b):∀x:AC,x.lv q=tT->(x.N_ g).N_ f=x
|.d x,_=>rfl
|.ptr b o,h=>by simp only[AC.lv]at h;simp only[AC.N_,H b h]
|.ept s b i o,h=>by simp only[AC.lv]at h;simp only[AC.N_,H b h]
|.x_ s b i o,h=>by simp only[AC.lv]at h;simp only[AC.N_,H b h]
|.map b,h=>by simp only[AC.lv]at h;simp only[AC.N_,H b h]
|.fn k cs,h=>by simp only[AC.lv]at h;simp only[AC.N_,AC.rens_back H cs h]
|.op _,_=>rfl
def AC.rens_back{f g:Nat->Nat}{q:Nat->Bool}(H:∀b,q b=tT->f (g b)=b):∀x:List AC,AC.lvs q x=tT->AC.b? f (AC.b? g x)=x
|[],_=>rfl
|c::cs,h=>by simp only[AC.lvs,aG]at h;simp only[AC.b?,AC.ren_back H c h.1,AC.rens_back H cs h.2]
end
mutual
def AV.ren_back{f g:Nat->Nat}{q:Nat->Bool}(H:∀b,q b=tT->f (g b)=b):∀x:AV,x.lv q=tT->(x.N_ g).N_ f=x
|.c x,h=>by simp only[AV.lv]at h;simp only[AV.N_,AC.ren_back H x h]
|.ag cs,h=>by simp only[AV.lv]at h;simp only[AV.N_,AC.rens_back H cs h]
|.a? vs,h=>by simp only[AV.lv]at h;simp only[AV.N_,AV.rens_back H vs h]
def AV.rens_back{f g:Nat->Nat}{q:Nat->Bool}(H:∀b,q b=tT->f (g b)=b):∀x:List AV,AV.lvs q x=tT->AV.b? f (AV.b? g x)=x
|[],_=>rfl
|v::vs,h=>by simp only[AV.lvs,aG]at h;simp only[AV.b?,AV.ren_back H v h.1,AV.rens_back H vs h.2]
end
def A_.ren_back{f g:Nat->Nat}{q:Nat->Bool}(H:∀b,q b=tT->f (g b)=b){x:A_}(h:x.lv q=tT):(x.N_ g).N_ f=x:=by
 cases x with
 |c?=>rfl
 |dead=>rfl
 |box cs=>simp only[A_.lv]at h;simp only[A_.N_,AC.rens_back H cs h]
 |arr s es=>
  simp only[A_.lv,ai]at h;simp only[A_.N_,dP,A_.arr.injEq,true_and];exact(List.map_congr_left λe he=>AC.rens_back H e (h e he)).trans (List.map_id' es)
 |map es=>
  simp only[A_.lv,ai]at h;simp only[A_.N_,dP,A_.map.injEq];exact(List.map_congr_left (f:=(λe:D × AV=>(e.1,e.2.N_ f))∘λe:D × AV=>(e.1,e.2.N_ g)) (g:=λe=>e) λe he=>by simp[AV.ren_back H e.2 (h e he)]).trans (List.map_id' es)
 |G_ t b=>simp[A_.lv]at h
def vU(h m:Hp):Prop:=∀b,h b=.dead\/m b=h b
def vU.box{h m:Hp}(a:vU h m){b:Nat}{cs:o7}(e:h b=.box cs):m b=.box cs:=((a b).resolve_left (by rw[e];simp)).trans e
def vU.arr{h m:Hp}(a:vU h m){b s:Nat}{es:oh}(e:h b=.arr s es):m b=.arr s es:=((a b).resolve_left (by rw[e];simp)).trans e
def vU.c?{h m:Hp}(a:vU h m){b:Nat}(e:h b=.c?):m b=.c?:=((a b).resolve_left (by rw[e];simp)).trans e
def QB{get:Nat->AV}{h m:Hp}(a:vU h m){s:Nat}{y:MX}{K:oh->oO->Prop}{ys:oh}{rd:oO}(e:J5 get h s y=sS (ys,rd))(k:K ys rd):qb get m s K y:=by
 unfold J5 at e;unfold qb;split at e
 next hx=>
  rw[hx];split at e
  .cases e;exact⟨by assumption,k⟩
  .cases e
 next hx=>
  rw[hx];split at e
  next hb=>
   simp only[a.arr hb];split at e
   next hh=>cases e;exact⟨hh.1,hh.2.1,hh.2.2,k⟩
   .cases e
  .cases e
 .cases e
def XQ{h m:Hp}(a:vU h m){f g:Nat->Nat}{q:Nat->Bool}(H:∀b,q b=tT->f (g b)=b):∀{l:List Nat},l.all (λj=>(h j).lv q&&(h j).tag !=1)=tT->p8 m f l (CY g h l)
|[],_=>trivial
|j::l,hl=>by
 simp only[List.all_cons,aG]at hl;refine⟨?_,XQ a H (uM hl.2)⟩;rw[A_.ren_back H hl.1.1];refine(a j).resolve_left λe=>?_;have:=hl.1.2;rw[e]at this;simp at this
def XR{m:Hp}{n:Nat}(hn:∀j,n<=j->m j=.c?):∀d k,n<=k->xq m k d
|0,_,_=>trivial
|d+1,k,h=>⟨hn k h,XR hn d (k+1) oM⟩
section
variable {P:Program} {C:CE} {get:Nat->AV} {h m:Hp} {n:Nat}
def zHs(hC:∀f ι bs v _d,C f ι bs=sS (v,_d)->q_ P f ι bs v _d)(a:vU h m)(hn:∀j,n<=j->h j=.c?){f:FuncId}{vs:oo}{v:AV}{rd:oO}{wr:oU}{n':Nat}(e:QA C h n f vs=sS (v,rd,wr,n'))
  {K:AV->oO->oU->Nat->Prop} (k:K v rd wr n'):Ad P f vs m n K:=by
 unfold QA at e;simp only at e;split at e
 next hh=>
  simp only[aG,aI]at hh;let⟨⟨⟨⟨⟨h1,h2⟩,h3⟩,h4⟩,h5⟩,h6⟩:=hh;split at e
  next w _d hc=>
   simp only[aU,au]at e;obtain⟨rfl,rfl,rfl,rfl⟩:=e;have hL:(CY (λb=>xD (yo h 10000 (AV.refsL vs) []) b 0) h (yo h 10000 (AV.refsL vs) [])).length=(yo h 10000 (AV.refsL vs) []).length:=by
    generalize yo h 10000 (AV.refsL vs) []=L;have:∀(g:Nat->Nat) (l:oO),(CY g h l).length=lN l:=λg l=>by
     induction l with
     |nil=>rfl
     |cons x l ih=>simp[CY,ih]
    exact this _ _
   have H:∀b,(Z' (yo h 10000 (AV.refsL vs) []) (xD (yo h 10000 (AV.refsL vs) []) b 0)==b&&zb (yo h 10000 (AV.refsL vs) []) b)=tT->Z' (yo h 10000 (AV.refsL vs) []) (xD (yo h 10000 (AV.refsL vs) []) b 0)=b:=λb hb=>by
    simp only[aG,ae]at hb;exact hb.1
   refine⟨_,_,_,_,_,hC _ _ _ _ _ hc,h1,λi hi=>of_decide_eq_true (ai.1 h2 i hi),(AV.rens_back H vs h3).symm,h4,λb hb=>ai.1 h6 b hb,XQ a H h5,?_,?_⟩
   .exact XR (λj hj=>a.c? (hn j hj)) _ _ (aJ _)
   .rw[hL];exact k
  .cases e
 .cases e
def zKB(hC:∀f ι bs v _d,C f ι bs=sS (v,_d)->q_ P f ι bs v _d)(a:vU h m)(hn:∀j,n<=j->h j=.c?){op:ni}{v:AV}{rd:oO}{wr:oU}{n':Nat}(e:mE C get h n op=sS (v,rd,wr,n'))
  {K:AV->oO->oU->Nat->Prop} (k:K v rd wr n'):ev P get m n K op:=by
 have hnn:m n=.c?:=a.c? (hn n (aJ _));cases op with
 |mv x=>simp only[mE]at e;cases e;exact k
 | pick c x y=>
  simp only[mE]at e;simp only[ev];split at e
  .rename_i t ht;rw[ht];cases t<;>(simp only at e;cases e;simp;exact k)
  .cases e
 | binI op x y=>
  simp only[mE]at e;simp only[ev];split at e
  .rename_i hx hy;rw[hx,hy];split at e
   .rename_i hk;refine⟨hk,?_⟩;split at e
    .rename_i hd;rw[hd];cases e;exact k
    .cases e
   .cases e
  .cases e
 | divI op x y=>
  simp only[mE]at e;simp only[ev];split at e
  .rename_i hx hy;rw[hx,hy];split at e
   .rename_i hk;refine⟨hk.1,hk.2,?_⟩;cases op<;>first|(simp only at e;cases e;exact k)|(simp at e)
   .cases e
  .cases e
 | binS op x y=>
  simp only[mE]at e;simp only[ev];split at e
  .rename_i hx hy;rw[hx,hy];split at e
   .rename_i hd;simp only[hd];cases e;exact k
   .cases e
  .cases e
 | cat x y=>
  simp only[mE]at e;simp only[ev];split at e
  .rename_i hx hy;rw[hx,hy];split at e
   .rename_i hd;cases e;exact⟨hd,k⟩
   .cases e
  .cases e
 | binB op x y=>
  simp only[mE]at e;simp only[ev];split at e
  .rename_i hx hy;rw[hx,hy];split at e
   .rename_i hd;simp only[hd];cases e;exact k
   .cases e
  .cases e
 |not x=>
  simp only[mE]at e;simp only[ev];split at e
  .rename_i hx;rw[hx];cases e;exact k
  .cases e
 |neg x=>
  simp only[mE]at e;simp only[ev];split at e
  .rename_i hx;rw[hx];cases e;exact k
  .cases e
 |convI q x=>
  simp only[mE]at e;simp only[ev];split at e
  .rename_i hx;rw[hx];cases e;exact k
  .cases e
 |boxM x=>
  simp only[mE]at e;simp only[ev];split at e
  .rename_i hx;rw[hx];cases e;exact⟨hnn,k⟩
  .cases e
 |alloc z=>simp only[mE]at e;cases e;exact⟨hnn,k⟩
 |build z ps=>
  simp only[mE]at e;simp only[ev];split at e
  .rename_i hx;rw[hx];cases e;exact k
  .cases e
 |buildSlM s xs=>
  simp only[mE]at e;simp only[ev];split at e
  .rename_i hx;rw[hx];cases e;exact⟨hnn,k⟩
  .cases e
 | load ag sz x=>
  simp only[mE]at e;simp only[ev];split at e
  .rename_i hx;rw[hx];split at e
   .rename_i hd;cases e;exact XN hd k
   .cases e
  .rename_i hx;rw[hx];split at e
   .rename_i hb;simp only[a.box hb];split at e
    .rename_i hd;cases e;exact Pz hd k
    .cases e
   .cases e
  .rename_i hx;rw[hx];split at e
   .rename_i hb;simp only[a.arr hb];split at e
    .rename_i hs;refine⟨hs,?_⟩;split at e
     .rename_i hi;rw[hi];split at e
      .rename_i hd;cases e;exact Pz hd k
      .cases e
     .cases e
    .cases e
   .cases e
  .cases e
 | store sz x y=>
  simp only[mE]at e;simp only[ev];split at e
  .rename_i hx hy;rw[hx,hy];split at e
   .rename_i hb;simp only[a.box hb];split at e
    .rename_i hs;cases e;exact⟨hs.1,hs.2,k⟩
    .cases e
   .cases e
  .rename_i hx hy;rw[hx,hy];split at e
   .rename_i hb;simp only[a.arr hb];split at e
    .rename_i hs;refine⟨hs.1,hs.2.1,hs.2.2,?_⟩;split at e
     .rename_i hi;rw[hi];cases e;exact k
     .cases e
    .cases e
   .cases e
  .cases e
 |faddr off x=>
  simp only[mE]at e;simp only[ev];split at e<;>first|(cases e;done)|(rename_i hx;rw[hx];cases e;exact k)
 | iaddrS s x i=>
  simp only[mE]at e;simp only[ev];split at e
  .rename_i hx hy;rw[hx,hy];split at e
   .rename_i hs;refine⟨hs.1,hs.2,?_⟩;split at e
    .rename_i hi;rw[hi];cases e;exact k
    .cases e
   .cases e
  .rename_i hx hy;rw[hx,hy];split at e
   .rename_i hs;cases e;exact⟨hs.1,hs.2.1,hs.2.2,k⟩
   .cases e
  .cases e
 | idxS x i=>
  simp only[mE]at e;simp only[ev];split at e
  .rename_i hx hy;rw[hx,hy];split at e
   .rename_i hs;refine⟨hs,?_⟩;split at e
    .rename_i hi;rw[hi];cases e;exact k
    .cases e
   .cases e
  .cases e
 | len x=>
  simp only[mE]at e;simp only[ev];split at e
  .rename_i hx;rw[hx];cases e;exact k
  .rename_i hx;rw[hx];split at e
   .rename_i hb;simp only[a.arr hb];split at e
    .rename_i hs;cases e;exact⟨hs,k⟩
    .cases e
   .cases e
  .cases e
 |lenS x=>
  simp only[mE]at e;simp only[ev];split at e
  .rename_i hx;rw[hx];cases e;exact k
  .cases e
 |nilck x=>
  simp only[mE]at e;simp only[ev];split at e<;>first|(cases e;done)|(rename_i hx;rw[hx];cases e;exact k)
 | extract x i=>
  simp only[mE]at e;simp only[ev];split at e
  .rename_i hx;rw[hx];split at e
   .rename_i hi;simp only[hi];cases e;exact k
   .cases e
  .cases e
 | slice s x lo hi=>
  simp only[mE]at e;simp only[ev];split at e
  .rename_i hx;rw[hx];split at e
   .rename_i h1 h2;split at e
    .rename_i hs;cases e;exact⟨hs.1,IM h1 (IM h2 ⟨hs.2.1,hs.2.2,k⟩)⟩
    .cases e
   .cases e
  .rename_i hx;rw[hx];split at e
   .rename_i h1 h2;split at e
    .rename_i hs;cases e;exact⟨hs.1,IM h1 (IM h2 ⟨hs.2.1,hs.2.2,k⟩)⟩
    .cases e
   .cases e
  .cases e
 | sliceS x lo hi=>
  simp only[mE]at e;simp only[ev];split at e
  .rename_i hx;rw[hx];split at e
   .rename_i h1 h2;split at e
    .rename_i hs;cases e;exact IM h1 (IM h2 ⟨hs.1,hs.2,k⟩)
    .cases e
   .cases e
  .cases e
 | append s bytes x y=>
  simp only[mE]at e;simp only[ev];split at e
  .rename_i hx;rw[hx];split at e
   .rename_i hb hs;simp only[a.arr hb];split at e
    .rename_i hh;cases e;exact⟨hh.1,hh.2.1,hh.2.2.1,hh.2.2.2.1,hnn,QB a hs ⟨hh.2.2.2.2.1,hh.2.2.2.2.2,k⟩⟩
    .cases e
   .cases e
  .rename_i hx;rw[hx];split at e
   .rename_i hs;split at e
    .rename_i hh;cases e;exact⟨hnn,QB a hs ⟨hh,k⟩⟩
    .cases e
   .cases e
  .cases e
 | copy s x y=>
  simp only[mE]at e;simp only[ev];split at e
  .rename_i hx;rw[hx];split at e
   .rename_i hb hs;simp only[a.arr hb];split at e
    .rename_i hh;cases e;exact⟨hh.1,hh.2.1,hh.2.2.1,hh.2.2.2.1,QB a hs ⟨hh.2.2.2.2,k⟩⟩
    .cases e
   .cases e
  .cases e
 | mkslM z bytes x y=>
  simp only[mE]at e;simp only[ev];split at e
  .rename_i hx hy;rw[hx,hy];split at e
   .rename_i hh;cases e;exact⟨hh.1,hh.2.1,hh.2.2,hnn,k⟩
   .cases e
  .cases e
 | minI mx x y=>
  simp only[mE]at e;simp only[ev];split at e
  .rename_i hx hy;rw[hx,hy];split at e
   .rename_i hh;cases e;exact⟨hh,k⟩
   .cases e
  .cases e
 |isNilP ne x=>
  simp only[mE]at e;simp only[ev];split at e<;>first|(cases e;done)|(rename_i hx;rw[hx];cases e;exact k)
 |callM f xs=>
  simp only[mE]at e;simp only[ev];exact zHs hC a hn e k
 |_=>simp[mE]at e
end
end Go.Abs
namespace Go.Abs
variable {v:AV}{c:Ctx}
variable [jE]
structure ES where
 t:List (Nat × AV)
 l:List A_
variable {S:ES}
def pJ:List A_->Nat->A_->Option (List A_)
|[],0,x=>sS [x]
|[],_+1,_=>nN
|_::l,0,x=>sS (x::l)
|y::l,n+1,x=>match pJ l n x with
 |some r=>sS (y::r)
 |none=>nN
def XT:∀{l:List A_} {n:Nat} {x:A_} {r:List A_},pJ l n x=sS r->r_ r=upd (r_ l) n x
| [],0,x,r,e=>by
 simp only[pJ]at e;cases e;funext j;by_cases h:j=0
 .subst h;rw[zam];rfl
 .rw[zao _ _ h];obtain⟨i,rfl⟩:=Nat.exists_eq_succ_of_ne_zero h;rfl
|[],n+1,x,r,e=>by simp[pJ]at e
| y::l,0,x,r,e=>by
 simp only[pJ]at e;cases e;funext j;by_cases h:j=0
 .subst h;rw[zam];rfl
 .rw[zao _ _ h];obtain⟨i,rfl⟩:=Nat.exists_eq_succ_of_ne_zero h;rfl
| y::l,n+1,x,r,e=>by
 simp only[pJ]at e;split at e
 next q hq=>
  cases e;have ih:=XT hq;funext j;cases j with
  |zero=>rw[zao _ _ oM];rfl
  |succ j=>
   have h1:=congrFun ih j;show r_ q j=_;rw[h1];by_cases h:j=n
   .subst h;rw[zam,zam]
   .rw[zao _ _ h,zao _ _ oM];rfl
 .cases e
def IP(k:Nat):List A_->List (Nat × A_)->Option (List A_)
|l,[]=>sS l
|l,(b,x)::r=>if b<k||k+k<=b then(match pJ l b x with
 |some q=>IP k q r
 |none=>nN)else nN
def XU{k:Nat}:∀{wr:List (Nat × A_)} {l q:List A_},IP k l wr=sS q->r_ q=jW (r_ l) wr/\∀p,p∈wr->p.1<k\/k+k<=p.1
|[],l,q,e=>by simp only[IP]at e;cases e;exact⟨rfl,λp hp=>by cases hp⟩
| (b,x)::wr,l,q,e=>by
 simp only[IP]at e;split at e
 next hb=>
  split at e
  next r hr=>
   let⟨h1,h2⟩:=XU e;refine⟨by rw[h1,XT hr];rfl,λp hp=>?_⟩;rcases aM.1 hp with rfl|hp
   .simpa using hb
   .exact h2 p hp
  .cases e
 .cases e
def MS(C:CE)(k:Nat)(op:ni)(dst:Option Nat)(S:ES):Option (ES × FP):=
 match mE C (look S.t) (r_ S.l) (lN S.l) op with
 |some (v,rd,wr,n)=>match IP k S.l wr with
  |some l=>if lN l=n then sS (⟨match dst with|some d=>(d,v)::S.t|none=>S.t,l⟩,(rd,wr.map (·.1)))else nN
  |none=>nN
 |none=>nN
def Db(dst:Option Nat)(v:AV)(S:ES):ES:=⟨match dst with|some d=>(d,v)::S.t|none=>S.t,S.l⟩
def Ah(C:CE) (k:Nat):List MO->ES->List FP->Option (ES × List FP)
|[],S,f=>sS (S,f.reverse)
| o ::os,S,f=>match o.g with
 |none=>(match MS C k o.op o.dst S with
  |some (S',p)=>Ah C k os S' (p::f)
  |none=>nN)
 | some (t,want)=>match look S.t t with
  | .c (.d (.bool b))=>if b=want then(match MS C k o.op o.dst ⟨(t,.c (.d (.bool want)))::S.t,S.l⟩with
    |some (S',p)=>Ah C k os S' (p::f)
    |none=>nN)
   else Ah C k os (Db o.dst jm ⟨(t,.c (.d (.bool (!want))))::S.t,S.l⟩) (([],[])::f)
  |.c (.d (.sc (.tuple _)))=>Ah C k os (Db o.dst jm S) (([],[])::f)
  |_=>nN
def tL(C:CE) (k:Nat):Nat->MC->ES->Option (Exit × ES)
|0,_,_=>nN
| n+1,mc,S=>match mc with
 |.skip=>sS (.normal,S)
 |.reg os=>(match Ah C k os S []with
  |some (S',_)=>sS (.normal,S')
  |none=>nN)
 |.regd _j os=>(match Ah C k os S []with
  |some (S',_i)=>if zT _j _i=tT then sS (.normal,S')else nN
  |none=>nN)
 |.seq a b=>(match tL C k n a S with
  |some (.normal,S')=>tL C k n b S'
  |r=>r)
 | .cond x a b=>(match X (look S.t) x with
  |.c (.d (.bool t))=>(match t with
   |true=>tL C k n a S
   |false=>tL C k n b S)
  |_=>nN)
 |.block i b=>(match tL C k n b S with
  |some (.exit j,S')=>if j=i then sS (.normal,S')else sS (.exit j,S')
  |r=>r)
 |.loop b=>(match tL C k n b S with
  |some (.normal,S')=>tL C k n (.loop b) S'
  |r=>r)
 |.exit i=>sS (.exit i,S)
 |.ret=>sS (.ret,S)
 |_=>nN
structure RS (k:Nat) (ts:List (Nat × Nat)) (S:ES) (X:St):Prop where
 t:X.t=S.t
 n:X.n=lN S.l
 agr:vU (r_ S.l) X.m
 G_:∀j t,ts[j]?=sS t->X.m (k+j)=.G_ t j
 ts:lN ts=k
def XW:∀{wr:List (Nat × A_)} {h m:Hp},vU h m->vU (jW h wr) (jW m wr)
|[],_,_,a=>a
|(b,x)::wr,h,m,a=>by
 refine XW (wr:=wr) λj=>?_;by_cases hj:j=b
 .subst hj;rw[zam,zam];exact .inr rfl
 .rw[zao _ _ hj,zao _ _ hj];exact a j
def XX:∀{wr:List (Nat × A_)} {m:Hp} {j:Nat},(∀p,p∈wr->p.1≠j)->jW m wr j=m j
|[],_,_,_=>rfl
|(b,x)::wr,m,j,h=>by
 have h1:=XX (wr:=wr) (m:=upd m b x) (j:=j) λp hp=>h p (by simp[hp]);show jW (upd m b x) wr j=_;rw[h1,zao _ _ (λe=>h (b,x) oC e.symm)]
section
variable {P:Program} {C:CE} {k:Nat} {ts:List (Nat × Nat)}
def RS.step{X:St}(r:RS k ts S X){wr:oU}{n:Nat}{l:oV}(e:IP k S.l wr=sS l)(hn:lN l=n)(dst:Option Nat):
  RS k ts ⟨match dst with|some d=>(d,v)::S.t|none=>S.t,l⟩ (X.put dst v wr n):=by
 let⟨e1,e2⟩:=XU e;refine⟨?_,hn.symm,?_,λj t hj=>?_,r.ts⟩
 .cases dst<;>simp[St.put,r.t]
 .show vU (r_ l) (jW X.m wr);rw[e1];exact XW r.agr
 .show jW X.m wr (k+j)=_;have hjl:j<k:=by
   have:=r.ts;rcases aY j (lN ts) with h|h
   .omega
   .rw[aR h]at hj;cases hj
  rw[XX λp hp e=>by rcases e2 p hp with h|h<;>omega];exact r.G_ j t hj
def RS.put{X:St}(r:RS k ts S X)(dst:Option Nat)(v:AV):RS k ts (Db dst v S) (X.put dst v [] X.n):=by
 refine⟨?_,r.n,r.agr,r.G_,r.ts⟩;cases dst<;>simp[St.put,Db,r.t]
def RS.D?{X:St}(r:RS k ts S X)(t:Nat)(b:Bool):RS k ts ⟨(t,.c (.d (.bool b)))::S.t,S.l⟩ (X.D? t b):=by
 refine⟨?_,r.n,r.agr,r.G_,r.ts⟩;simp[St.D?,r.t]
def MU(hC:∀f ι bs v _d,C f ι bs=sS (v,_d)->q_ P f ι bs v _d){op:ni}{dst:Option Nat}{S':ES}{p:FP}(e:MS C k op dst S=sS (S',p)){X:St}(r:RS k ts S X){K:AV->oO->oU->Nat->Prop}
  (hK:∀v rd wr n,RS k ts S' (X.put dst v wr n)->p=(rd,wr.map (·.1))->K v rd wr n):ev P X.get X.m X.n K op:=by
 unfold MS at e;split at e
 next v rd wr n he=>
  split at e
  next l hl=>
   split at e
   next hn=>
    simp only[aU,au]at e;obtain⟨rfl,rfl⟩:=e;have hg:X.get=look S.t:=by funext j;show look X.t j=_;rw[r.t]
    rw[hg,r.n];refine zKB hC r.agr (λj hj=>wR hj) he (hK _ _ _ _ ?_ rfl);have:=r.step (v:=v) hl hn dst;exact this
   .cases e
  .cases e
 .cases e
def J6(hC:∀f ι bs v _d,C f ι bs=sS (v,_d)->q_ P f ι bs v _d):∀{os:List MO} {S S':ES} {f _i:List FP} {X:St} {K:St->Prop},Ah C k os S f=sS (S',_i)->RS k ts S X->(∀X',RS k ts S' X'->K X')->qc P os X K
|[],S,S',f,_i,X,K,e,r,h=>by
 simp only[Ah,aU,au]at e;obtain⟨rfl,rfl⟩:=e;exact h _ r
| o ::os,S,S',f,_i,X,K,e,r,h=>by
 unfold Ah at e;unfold qc;split at e
 next hg=>
  rw[hg];simp only;split at e
  next S1 p h1=>
   exact MU hC h1 r λv rd wr n r' _=>J6 hC e r' h
  .cases e
 next t want hg=>
  rw[hg];have hx:X.get t=look S.t t:=by show look X.t t=_;rw[r.t]
  simp only[hx];split at e
  next b hb=>
   rw[hb];split at e
   next hw=>
    subst hw;split at e
    next S1 p h1=>
     refine⟨λ_=>?_,λhh=>by cases b<;>cases hh⟩;have r1:=r.D? t b;exact MU hC (X:=X.D? t b) h1 r1 λv rd wr n r' _=>J6 hC e r' h
    .cases e
   next hw=>
    refine⟨λhh=>absurd hh hw,λ_=>?_⟩;exact J6 hC e ((r.D? t (!want)).put o.dst jm) h
  next x hb=>
   rw[hb];exact J6 hC e (r.put o.dst jm) h
  .cases e
def J7(hC:∀f ι bs v _d,C f ι bs=sS (v,_d)->q_ P f ι bs v _d):∀{os:List MO} {S S':ES} {f _i:List FP} {X:St} {K:St->List FP->Prop},Ah C k os S f=sS (S',_i)->RS k ts S X->(∀X',RS k ts S' X'->K X' _i)->lJ P os X f K
|[],S,S',f,_i,X,K,e,r,h=>by
 simp only[Ah,aU,au]at e;obtain⟨rfl,rfl⟩:=e;exact h _ r
| o ::os,S,S',f,_i,X,K,e,r,h=>by
 unfold Ah at e;unfold lJ;split at e
 next hg=>
  rw[hg];simp only;split at e
  next S1 p h1=>
   exact MU hC h1 r λv rd wr n r' hp=>by subst hp;exact J7 hC e r' h
  .cases e
 next t want hg=>
  rw[hg];have hx:X.get t=look S.t t:=by show look X.t t=_;rw[r.t]
  simp only[hx];split at e
  next b hb=>
   rw[hb];split at e
   next hw=>
    subst hw;split at e
    next S1 p h1=>
     refine⟨λ_=>?_,λhh=>by cases b<;>cases hh⟩;have r1:=r.D? t b;exact MU hC (X:=X.D? t b) h1 r1 λv rd wr n r' hp=>by subst hp;exact J7 hC e r' h
    .cases e
   next hw=>
    refine⟨λhh=>absurd hh hw,λ_=>?_⟩;exact J7 hC e ((r.D? t (!want)).put o.dst jm) h
  next x hb=>
   rw[hb];exact J7 hC e (r.put o.dst jm) h
  .cases e
def AW.loopI{body:MC}{Q:Exit->St->Prop}(I:Nat->St->Prop)(round:∀n X,I n X->AW P c body (yE (λX'=>∃n',n'<n/\I n' X') Q) X){n0:Nat}{X0:St}(h0:I n0 X0):AW P c (.loop body) Q X0:=by
 intro code hc a w r;cases code with
 | loop b=>
  simp only[w?]at hc;intro fr k cs
  have key:∀n:Nat,∀X,I n X->∀a w,jo P c X.get X.m a w->
    ∃e a' w',(∃S':St,jo P c S'.get S'.m a' w'/\Q e S')/\Arrives P (lone (fr.at a (.code b::.inLoop b::k)) cs w) fr k cs e a' w':=by
   intro n
   induction n using Nat.strongRecOn with
   | _ n ih=>
    intro X hX a w r;let⟨e,a₁,w₁,⟨S',r',q⟩,_O⟩:=round n X hX b hc a w r fr (.inLoop b::k) cs;cases e with
    |normal=>
     let⟨n',_k,hX'⟩:=q;let⟨e₂,a₂,w₂,hq₂,_O₂⟩:=ih n' _k S' hX' a₁ w₁ r';exact⟨e₂,a₂,w₂,hq₂,.of_steps (Steps.trans _O (.one step_inLoop)) _O₂⟩
    |exit id=>exact⟨_,a₁,w₁,⟨S',r',q⟩,.pass (x:=.inLoop b) rfl (λ_ _=>.inl oC) _O⟩
    |goto l=>exact⟨_,a₁,w₁,⟨S',r',q⟩,.pass (x:=.inLoop b) rfl (λ_ _=>.inl oC) _O⟩
    |ret=>exact⟨_,a₁,w₁,⟨S',r',q⟩,.pass (x:=.inLoop b) rfl (λ_ _=>.inl oC) _O⟩
    |panic ch=>exact⟨_,a₁,w₁,⟨S',r',q⟩,.pass (x:=.inLoop b) rfl (λ_ _=>.inl oC) _O⟩
    |outgrown=>exact⟨_,a₁,w₁,⟨S',r',q⟩,.pass (x:=.inLoop b) rfl (λ_ _=>.inl oC) _O⟩
  let⟨e,a',w',hq,_O⟩:=key n0 X0 h0 a w r;exact⟨e,a',w',hq,.of_steps (.one step_loop) _O⟩
 |_=>simp[w?]at hc
def XY(hm:P.follows .mixedOrders=tT)(hC:∀f ι bs v _d,C f ι bs=sS (v,_d)->q_ P f ι bs v _d):∀(n:Nat) {mc:MC} {S S':ES} {e:Exit} {X:St} {Q:Exit->St->Prop},tL C k n mc S=sS (e,S')->RS k ts S X->(∀X',RS k ts S' X'->Q e X')->AW P c mc Q X:=by
 intro n
 induction n using Nat.strongRecOn with
 |_ n ih=>
 intro mc S S' e X Q h r q;cases n with
 |zero=>simp[tL]at h
 |succ n=>
 cases mc with
 |skip=>simp only[tL,aU,au]at h;obtain⟨rfl,rfl⟩:=h;exact AW.skip (q _ r)
 |exit i=>simp only[tL,aU,au]at h;obtain⟨rfl,rfl⟩:=h;exact AW.exit (q _ r)
 |ret=>simp only[tL,aU,au]at h;obtain⟨rfl,rfl⟩:=h;exact AW.ret (q _ r)
 | reg os=>
  simp only[tL]at h;split at h
  next S1 _i h1=>
   simp only[aU,au]at h;obtain⟨rfl,rfl⟩:=h;exact AW.reg (J6 hC h1 r q)
  .cases h
 | regd _j os=>
  simp only[tL]at h;split at h
  next S1 _i h1=>
   split at h
   next hf=>
    simp only[aU,au]at h;obtain⟨rfl,rfl⟩:=h;exact AW.regd hm (J7 hC h1 r λX' r'=>⟨hf,q X' r'⟩)
   .cases h
  .cases h
 | seq x y=>
  simp only[tL]at h;apply AW.seq;split at h
  next S1 h1=>
   exact ih n oM h1 r λX' r'=>ih n oM h r' q
  next _A=>
   refine ih n oM h r λX' r'=>?_;cases e with
   |normal=>exact(_A _ h).elim
   |_=>exact q X' r'
 | cond x y z=>
  simp only[tL]at h;have hx:X.get=look S.t:=by funext j;show look X.t j=_;rw[r.t]
  split at h
  next t ht=>
   rw[<-hx]at ht;cases t with
   |true=>exact AW.cond ht (λ_=>ih n oM h r q) (λhh=>by cases hh)
   |false=>exact AW.cond ht (λhh=>by cases hh) (λ_=>ih n oM h r q)
  .cases h
 | block i b=>
  simp only[tL]at h;apply AW.block;split at h
  next j S1 h1=>
   refine ih n oM h1 r λX' r'=>?_;split at h
   next hj=>
    simp only[aU,au]at h;obtain⟨rfl,rfl⟩:=h;simp only[Af];rw[aC hj];exact q X' r'
   next hj=>
    simp only[aU,au]at h;obtain⟨rfl,rfl⟩:=h;simp only[Af];rw[aB hj];exact q X' r'
  next _A=>
   refine ih n oM h r λX' r'=>?_;cases e with
   |exit j=>exact(_A _ _ h).elim
   |_=>exact q X' r'
 | loop b=>
  refine AW.loopI (λj X=>∃S,RS k ts S X/\j<=n+1/\tL C k j (.loop b) S=sS (e,S')) (λj X ⟨S,r,hj,h⟩=>?_) (n0:=n+1) ⟨S,r,aJ _,h⟩;cases j with
  |zero=>simp[tL]at h
  | succ j=>
   simp only[tL]at h;split at h
   next S1 h1=>
    exact ih j oM h1 r λX' r'=>⟨j,oM,S1,r',oM,h⟩
   next _A=>
    refine ih j oM h r λX' r'=>?_;cases e with
    |normal=>exact(_A _ h).elim
    |_=>exact q X' r'
 |_=>simp[tL]at h
end
def uB(S:ES):List MR->Option (List AV)
|[]=>sS []
|.tmp t::rs=>(match uB S rs with
 |some vs=>sS (look S.t t::vs)
 |none=>nN)
| .cell t ag sz::rs=>(match(match look S.t t with
  |.c (.d (.rp cs off))=>MQ ag sz cs off
  |.c (.ptr b off)=>(match r_ S.l b with
   |.box cs=>J4 ag sz cs off
   |_=>nN)
  |_=>nN),uB S rs with
 |some v,sS vs=>sS (v::vs)
 |_,_=>nN)
def J8{k:Nat}{ts:List (Nat × Nat)}{X:St}(r:RS k ts S X):∀{rs:List MR} {vs:List AV} {K:List AV->Prop},uB S rs=sS vs->K vs->zX X rs K
|[],vs,K,e,h=>by simp only[uB]at e;cases e;exact h
| .tmp t::rs,vs,K,e,h=>by
 simp only[uB]at e;split at e
 next ws hw=>
  cases e;show zX X rs λvs=>K (X.get t::vs);have hx:X.get t=look S.t t:=by show look X.t t=_;rw[r.t]
  rw[hx];exact J8 r hw h
 .cases e
| .cell t ag sz::rs,vs,K,e,h=>by
 simp only[uB]at e;split at e
 next v ws hv hw=>
  cases e;show zW X (λv=>zX X rs λvs=>K (v::vs)) (.cell t ag sz);have hx:X.get t=look S.t t:=by show look X.t t=_;rw[r.t]
  simp only[zW,hx];have hrest:=J8 (K:=λvs=>K (v::vs)) r hw h;split at hv
  next hc=>rw[hc];exact XN hv hrest
  next b off hc=>
   rw[hc];split at hv
   next hb=>
    simp only[r.agr.box hb];exact Pz hv hrest
   .cases hv
  .cases hv
 .cases e
def BO(args:oo)(N:Nat)(bs:oV)(v:AV)(_d:oV):Bool:=
 decide (lN args<=N)&&((bs.all λb=>b.tag !=0)&&(decide (lN bs<=lN _d)&&((_d.all λb=>b.tag !=0)&&(((_d.drop (lN bs)).all λb=>b.tag==2)&&(v.lv (live _d)&&(_d.all λb=>b.lv (live _d)))))))
def zIm{args:oo}{N:Nat}{bs:oV}{_d:oV}(h:BO args N bs v _d=tT):lX args N bs v _d:=by
 unfold BO at h;simp only[aG,aI]at h;exact⟨h.1,h.2.1,h.2.2.1,h.2.2.2.1,h.2.2.2.2.1,h.2.2.2.2.2.1,h.2.2.2.2.2.2⟩
def ul:Nat->Nat->List Nat
|_,0=>[]
|i,n+1=>i::ul (i+1) n
def BP(k:Nat)(S:ES)(vs:oo):Option (AV × List A_):=
 let v:=one? vs;let L:=gJ (ul 0 k) ((yo (r_ S.l) 10000 (gJ (ul 0 k) v.refs) []).filter λj=>decide (k+k<=j));let g:=λb=>xD L b 0;let q:=λb=>Z' L (g b)==b&&zb L b
 if decide L.Nodup&&v.lv q&&L.all (λj=>(r_ S.l j).lv q)then sS (v.N_ g,CY g (r_ S.l) L)else nN
abbrev TE:=FuncId->Option (Nat × MC × List MR)
variable {T:TE}
abbrev sO:=List TE
def J9(T:TE) (X:CE) (fuel:Nat):Nat->CE
|0=>X
| d +1=>λf args bs=>match T f with
 |none=>X f args bs
 | some (N,mc,rs)=>match tL (J9 T X fuel d) (lN bs) fuel mc ⟨nL 0 args,bs++List.replicate (lN bs) .dead⟩with
  | some (e,S)=>match e with
   | .ret=>(match uB S rs with
    |some vs=>(match BP (lN bs) S vs with
     |some (v,_d)=>if BO args N bs v _d then sS (v,_d)else nN
     |none=>nN)
    |none=>nN)
   | .normal=>(match uB S rs with
    |some vs=>(match BP (lN bs) S vs with
     |some (v,_d)=>if BO args N bs v _d then sS (v,_d)else nN
     |none=>nN)
    |none=>nN)
   |_=>nN
  |none=>nN
def MV:∀i n,(ul i n).length=n
|_,0=>rfl
|i,n+1=>by simp[ul,MV (i+1) n]
def QD:∀i n j,j<n->(ul i n)[j]?=sS (i+j)
|i,0,j,h=>by omega
|i,n+1,0,h=>rfl
|i,n+1,j+1,h=>by
 show(ul (i+1) n)[j]?=_;rw[QD (i+1) n j oM];congr 1;omega
def QE{α:Type}:∀a b:List α,gJ a b=a++b
|[],b=>rfl
|x::a,b=>by simp[gJ,QE a b]
def XZ(g:Nat->Nat)(h:Hp):∀l,(CY g h l).length=lN l
|[]=>rfl
|x::l=>by simp[CY,XZ g h l]
def X3{X:St}{l:List Nat}{h:Hp}{g:Nat->Nat}{q:Nat->Bool}(a:vU h X.m)(H:∀b,q b=tT->Z' l (g b)=b):∀js:List Nat,js.all (λj=>(h j).lv q)=tT->mJ X l js (CY g h js)
|[],_=>trivial
|j::js,hl=>by
 simp only[List.all_cons,aG]at hl;refine⟨?_,X3 a H js hl.2⟩;rcases a j with e|e
 .left;rw[e];rfl
 .right;rw[e,A_.ren_back H hl.1]
def X4{X:St}{l:List Nat}:∀{ts:List (Nat × Nat)} {js qs:List Nat} {bs:List A_},lN ts<=lN js->lN ts<=lN qs->lN ts<=lN bs->(∀i t,ts[i]?=sS t->X.m (qs.getD i 0)=.G_ t (js.getD i 0))->kV X l js qs ts bs
|[],_,_,_,_,_,_,_=>by unfold kV;trivial
|t::ts,[],_,_,h,_,_,_=>by simp at h
|t::ts,j::js,[],_,_,h,_,_=>by simp at h
|t::ts,j::js,q::qs,[],_,_,h,_=>by simp at h
|t::ts,j::js,q::qs,b::bs,h1,h2,h3,h=>by
 refine⟨.inr (uM (h 0 t rfl)),X4 (uM h1) (uM h2) (uM h3) λi t' e=>?_⟩;have:=h (i+1) t' (uM e);simpa using this
section
variable {P:Program}
def X5{k:Nat}{ts:o6}{X:St}(r:RS k ts S X){vs:oo}{_d:oV}(e:BP k S vs=sS (v,_d)):kD v _d ts vs X:=by
 unfold BP at e;simp only at e;split at e
 next hh=>
  simp only[aG,aI]at hh;let⟨⟨h1,h2⟩,h3⟩:=hh;simp only[aU,au]at e;obtain⟨rfl,rfl⟩:=e;generalize hL:gJ (ul 0 k) ((yo (r_ S.l) 10000 (gJ (ul 0 k) (one? vs).refs) []).filter λj=>decide (k+k<=j))=L at h1 h2 h3⊢;have hpre:∀j,j<k->L[j]?=sS j:=λj hj=>by
   rw[<-hL,QE,aj (by rw[MV];exact hj),QD 0 k j hj];simp
  have hlen:k<=lN L:=by rw[<-hL,QE,aV,MV];omega
  have H:∀b,(Z' L (xD L b 0)==b&&zb L b)=tT->Z' L (xD L b 0)=b:=λb hb=>by
   simp only[aG,ae]at hb;exact hb.1
  refine fK L (ul k k) ⟨h1,(AV.ren_back H _ h2).symm,X3 r.agr H L h3,X4 ?_ ?_ ?_ λi t hi=>?_⟩
  .rw[r.ts];exact hlen
  .rw[r.ts,MV];exact aJ _
  .rw[r.ts,XZ];exact hlen
  .have hik:i<k:=by
    have:=r.ts;rcases aY i (lN ts) with h|h
    .omega
    .rw[aR h]at hi;cases hi
   rw[aH,QD k k i hik,aH,hpre i hik];exact r.G_ i t hi
 .cases e
def zFK{args:oo}{bs:oV}{ts:o6}(_e:lN ts=lN bs):RS (lN bs) ts ⟨nL 0 args,bs++List.replicate (lN bs) .dead⟩ ⟨nL 0 args,r_ (bs++uA 0 ts),lN bs+lN ts⟩:=by
 refine⟨rfl,by simp[_e],λb=>?_,λj t hj=>?_,_e⟩
 .show r_ (bs++List.replicate (lN bs) .dead) b=.dead\/r_ (bs++uA 0 ts) b=r_ (bs++List.replicate (lN bs) .dead) b;unfold r_;simp only[aH];rcases aY b (lN bs) with h|h
  .right;rw[aj h,aj h]
  .rw[ay h,ay h,List.getElem?_replicate];split
   .left;rfl
   .right;rw[aR (by rw[Pp];omega)]
 .show r_ (bs++uA 0 ts) (lN bs+j)=_;unfold r_;rw[aH,ay oM,cO,Pq,hj];simp
def zFL(hm:P.follows .mixedOrders=tT)  (hT:∀f N mc rs,T f=sS (N,mc,rs)->∃fn,P.funcs[f]?=sS fn/\yJ P fn N mc rs=tT) {X:CE} (hX:∀f args bs v _d,X f args bs=sS (v,_d)->q_ P f args bs v _d) (fuel:Nat):∀(d:Nat) (f:FuncId) (args:oo) (bs:oV) (v:AV) (_d:oV),J9 T X fuel d f args bs=sS (v,_d)->q_ P f args bs v _d:=by
 intro d
 induction d with
 |zero=>intro f args bs v _d h;exact hX _ _ _ _ _ h
 | succ d ih=>
  intro f args bs v _d h;simp only[J9]at h;split at h
  .exact hX _ _ _ _ _ h
  next N mc rs hTf=>
   let⟨fn,hfn,hw⟩:=hT _ _ _ _ hTf;unfold yJ at hw;simp only[aG,aI]at hw;let⟨⟨eN,hnm⟩,hc,hr⟩:=hw;subst eN;cases hb:fn.body with
   |none=>rw[hb]at hc;cases hc
   | some b=>
    rw[hb]at hc;split at h
    next e S hex=>
     have main:∀{vs:oo},uB S rs=sS vs->BP (lN bs) S vs=sS (v,_d)->BO args fn.ntmps bs v _d=tT->(e=.ret\/e=.normal)->q_ P f args bs v _d:=by
      intro vs h1 h2 h3 he;have hs:=zIm h3;refine q_.of_walk hfn hb hnm hc hr hs.1 (Eh hs.2.1) hs.2.2.1 (Eh hs.2.2.2.1) (Ps hs.2.2.2.2.1) hs.2.2.2.2.2.1 (λb hb=>ai.1 hs.2.2.2.2.2.2 b hb) λts _e _ _ c _ _=>?_;refine XY hm ih fuel hex (zFK _e) λX' r'=>?_;rcases he with rfl|rfl
      .exact J8 r' h1 (X5 r' h2)
      .exact J8 r' h1 (X5 r' h2)
     cases e with
     | ret=>
      simp only at h;split at h
      next vs h1=>
       split at h
       next v0 b0 h2=>
        split at h
        next h3=>
         simp only[aU,au]at h;obtain⟨rfl,rfl⟩:=h;exact main h1 h2 h3 (.inl rfl)
        .cases h
       .cases h
      .cases h
     | normal=>
      simp only at h;split at h
      next vs h1=>
       split at h
       next v0 b0 h2=>
        split at h
        next h3=>
         simp only[aU,au]at h;obtain⟨rfl,rfl⟩:=h;exact main h1 h2 h3 (.inr rfl)
        .cases h
       .cases h
      .cases h
     |_=>simp at h
    .cases h
end
mutual
def X6{h m:Hp}(a:vU h m):∀(f:Nat) (x:AC) (d:D),S? h f x=sS d->S? m f x=sS d
|f,.d x,d,e=>by unfold S? at e⊢;exact e
|f,.x_ s b off len,d,e=>by
 unfold S? at e⊢;split at e
 next hb=>rw[a.arr hb];exact e
 .cases e
| f+1,.ptr b off,d,e=>by
 unfold S? at e⊢;split at e
 next cs hb=>
  rw[a.box hb];simp only[aP]at e⊢;let⟨ds,e1,e2⟩:=e;exact⟨ds,MW a f cs ds e1,e2⟩
 .cases e
|f+1,.fn g k_,d,e=>by
 unfold S? at e⊢;simp only[aP]at e⊢;let⟨ds,e1,e2⟩:=e;exact⟨ds,MW a f k_ ds e1,e2⟩
|0,.ptr b off,d,e=>by unfold S? at e;cases e
|0,.fn g k_,d,e=>by unfold S? at e;cases e
|0,.ept s b i off,d,e=>by unfold S? at e;cases e
|_+1,.ept s b i off,d,e=>by unfold S? at e;cases e
|0,.map b,d,e=>by unfold S? at e;cases e
|_+1,.map b,d,e=>by unfold S? at e;cases e
|0,.op q,d,e=>by unfold S? at e;cases e
|_+1,.op q,d,e=>by unfold S? at e;cases e
def MW{h m:Hp}(a:vU h m):∀(f:Nat) (x:List AC) (d:List D),uk h f x=sS d->uk m f x=sS d
|f,[],d,e=>by unfold uk at e⊢;exact e
| f,c::cs,d,e=>by
 unfold uk at e⊢;split at e
 next x xs h1 h2=>
  rw[X6 a f c x h1,MW a f cs xs h2];exact e
 .cases e
end
mutual
def X7{h m:Hp}(a:vU h m):∀(x:AV) (d:DV),frzV h x=sS d->frzV m x=sS d
|.c x,d,e=>by
 unfold frzV at e⊢;simp only[aP]at e⊢;let⟨y,e1,e2⟩:=e;exact⟨y,X6 a _ _ _ e1,e2⟩
|.ag cs,d,e=>by
 unfold frzV at e⊢;simp only[aP]at e⊢;let⟨y,e1,e2⟩:=e;exact⟨y,MW a _ _ _ e1,e2⟩
|.a? vs,d,e=>by
 unfold frzV at e⊢;simp only[aP]at e⊢;let⟨y,e1,e2⟩:=e;exact⟨y,X8 a _ _ e1,e2⟩
def X8{h m:Hp}(a:vU h m):∀(x:List AV) (d:List DV),wQ h x=sS d->wQ m x=sS d
|[],d,e=>by unfold wQ at e⊢;exact e
| v::vs,d,e=>by
 unfold wQ at e⊢;split at e
 next x xs h1 h2=>
  rw[X7 a v x h1,X8 a vs xs h2];exact e
 .cases e
end
def MZ(T:TE) (X:CE) (fuel d:Nat) (f:FuncId) (args:sQ):Option DV:=match T f with
|none=>nN
| some (N,mc,rs)=>if lN args<=N then(match tL (J9 T X fuel d) 0 fuel mc ⟨qd 0 args,[]⟩with
  |some (.ret,S)=>(match uB S rs with
   |some vs=>(frzV (r_ S.l) (one? vs)).map DV.er
   |none=>nN)
  |_=>nN)else nN
def X9{P:Program}(hm:P.follows .mixedOrders=tT)(hT:∀f N mc rs,T f=sS (N,mc,rs)->∃fn,P.funcs[f]?=sS fn/\yJ P fn N mc rs=tT){X:CE}(hX:∀f args bs v _d,X f args bs=sS (v,_d)->q_ P f args bs v _d){fuel d:Nat}{f:FuncId}{args:sQ}{v:DV}(h:MZ T X fuel d f args=sS v):h_ P f args v:=by
 unfold MZ at h;split at h
 .cases h
 next N mc rs hTf=>
  let⟨fn,hfn,hw⟩:=hT _ _ _ _ hTf;unfold yJ at hw;simp only[aG,aI]at hw;let⟨⟨eN,hnm⟩,hc,hr⟩:=hw;subst eN;cases hb:fn.body with
  |none=>rw[hb]at hc;cases hc
  | some b=>
   rw[hb]at hc;split at h
   next hal=>
    split at h
    next S hex=>
     split at h
     next vs h1=>
      refine h_.of_walk hfn hb hnm hc hr hal λ_ c _ _=>?_;refine XY (k:=0) (ts:=[]) hm (zFL hm hT hX fuel d) fuel hex ⟨rfl,rfl,λb=>.inr rfl,λj t hj=>by simp at hj,rfl⟩ λX' r'=>?_;apply J8 r' h1;simp only[aP]at h⊢;let⟨y,e1,e2⟩:=h;exact⟨y,X7 r'.agr _ _ e1,e2⟩
     .cases h
    .cases h
   .cases h
end Go.Abs
namespace Go.Abs
variable {h:PH}{ρ:RM}{m:Hp}{w w':Heap}
variable [jE]
section
variable {P:Program}
def Fg(c:Ctx)(v:DV)(e:Ending)(w':World):Prop:=∃(vC:Value) (h':PH),e=.returned vC/\c.h.le h'/\(∀B,B<c.w.heap.size->h' B=c.h B)/\(∀B o,h' B=sS o->w'.heap[B]?=sS o)/\
 c.w.heap.size<=w'.heap.size/\(∀B,B<c.w.heap.size->w'.heap[B]?=c.w.heap[B]?)/\Same c.w w'/\jJ h' v vC
def QF{c:Ctx}{fn:Func}{rs:qC}{v:DV}{S:St}{a:Act}{w':World}(h0:c.ρ=λ_=>nN)(r:jo P c S.get S.m a w')(hr:kJ P rs fn.results.toList=tT)(hk:zX S rs λvs=>(frzV S.m (one? vs)).map DV.er=sS v):
  ∃vC,(results fn a.tmps).run P w'=.ok vC w'/\Fg c v (.returned vC) w':=by
 obtain⟨ph',ρ',H,S0,e0,hg⟩:=r.ex;obtain⟨vs,kv,F⟩:=Lx hr hk;simp only[aP]at kv;obtain⟨v',kv,ev⟩:=kv;subst ev;obtain⟨_F,g1,g2⟩:=F (a:=a) H hg;have _w:∀b p,ρ' b=sS p->Real (S.m b) p->c.w.heap.size<=p.1:=by
  intro b p h1 h2;rcases S0.own b p h1 h2 with h3|⟨c',q,h3,_⟩
  .exact h3
  .rw[h0]at h3;cases h3
 have free:∀B,jK c.ρ c.m B:=λB b p h1=>by rw[h0]at h1;cases h1
 have hres:j_ P (results fn a.tmps) w' (zY _F) w':=by
  unfold results;refine fG (a:=_F.toArray) (w':=w') ?_ ?_
  .rw[dK];exact g1.map (f:=List.toArray)
  .cases _F with
   |nil=>exact fF _
   |cons u _F=>
    cases _F with
    |nil=>exact fF _
    |cons u' _F=>exact fF _
 have _U:g_ ph' ρ' (one? vs) (zY _F):=by
  cases vs with
  |nil=>
   simp only[iC]at g2;subst g2;simp only[one?,g_];exact⟨[],rfl,rfl⟩
  | cons x xs=>
   cases _F with
   |nil=>simp[iC]at g2
   | cons u _F=>
    cases xs with
    |nil=>
     simp only[iC]at g2;rw[g2.2];exact g2.1
    | cons y ys=>
     cases _F with
     |nil=>simp[iC]at g2
     |cons u' _F=>
      simp only[one?,g_];exact⟨_,rfl,g2⟩
 refine⟨_,hres,_,vR ph' c.w.heap.size w'.heap,rfl,PH.le_trans S0.hle (II H),λB hB=>?_,Lt H,S0.size,λB hB=>S0.frame B hB (free B),e0,(Pi H _w _ _ _ kv _U).er⟩;unfold vR;rw[aC hB];exact S0.hlow B hB (free B)
def h_.of_defers{f : FuncId} {fn : Func} {code : Code} {args : List DV} {v : DV} (hf : P.funcs[f]? = sS fn) (hb : fn.body = sS code) (hname : (fn.name != "runtime.NumGoroutine") = tT) (hn : args.length <= fn.ntmps)
  (h:DV.okL args->∀c:Ctx,c.N=fn.ntmps->c.D=[]->c.ρ=(λ_=>nN)->c.m=(λ_=>.c?)->∀(a:Act) (w:World),jo P c (look (qd 0 args)) (λ_=>.c?) a w->code.wp P (bodyPostD P fn (Fg c v)) a w):h_ P f args v:=by
 refine⟨by unfold callee;rw[hf];simp only[hb];simpa using hname,λph w us hp hG hS ra=>?_⟩;have hlen:=ra.length;let c:Ctx:=⟨ph,λ_=>nN,λ_=>.c?,w,fn.ntmps,[]⟩
 refine calls_of_wp_defers hf hb (h (il.ok _ _ ra) c rfl rfl rfl rfl _ w ?_);refine⟨hG,jE.mono hS (fU _) (aJ _) (λ_ _ _=>⟨rfl,rfl,λb p hp=>by cases hp⟩),rfl,?_,ph,λ_=>nN,⟨hp,λb=>by simp,(λb p e=>by cases e),(λb c p q e=>by cases e),(λb p e=>by cases e)⟩,(Step.refl _ _ _ _).wk,fZ w,λk=>?_⟩
 .simp[c];omega
 .show g_ ph (λ_=>nN) (look (qd 0 args) k) _;have:=Pj (ρ:=λ_=>nN) 0 ra k;simp only[eF,if_true,dW]at this;have e1:(us.toArray++Array.replicate (fn.ntmps-us.toArray.size) undef).getD k undef=us.getD k undef:=by
   rw[aZ,aH,Array.getElem?_append];split
   .simp
   next hh=>
    rw[aR (uM hh)];simp only[bZ];split<;>rfl
  rw[e1];exact this
def tY.transW{h' h'':PH}{ρ' ρ'':RM}{m' m'':Hp}{w'':Heap}(s:tY h ρ m w h' ρ' m' w')(t:tY h' ρ' m' w' h'' ρ'' m'' w''):tY h ρ m w h'' ρ'' m'' w'' where
 hle:=PH.le_trans s.hle t.hle
 hlow:=λB hB hf=>(t.hlow B (cB hB s.size) (s.free hB hf)).trans (s.hlow B hB hf)
 size:=aX s.size t.size
 frame:=λB hB hf=>(t.frame B (cB hB s.size) (s.free hB hf)).trans (s.frame B hB hf)
 own:=λb p hp hr=>by
  rcases t.own b p hp hr with h1|⟨c,q,hc,hq,e⟩
  .exact .inl (aX s.size h1)
  .rcases s.own c q hc hq with h2|⟨d,r,hd,hr',e'⟩
   .exact .inl oM
   .exact .inr ⟨d,r,hd,hr',e'.trans e⟩
def E_.G_(H:E_ h ρ m w){b j:Nat}{p:Nat × Nat}(hb:ρ b=sS p)(hj:m j=.c?):E_ h (upd ρ j (sS p)) (upd m j (.G_ p b)) w/\tY h ρ m w h (upd ρ j (sS p)) (upd m j (.G_ p b)) w:=by
 have _A:b≠j:=λe=>by
  subst e;rw[(H.dom b).1 hj]at hb;cases hb
 have rle:ρ.le (upd ρ j (sS p)):=λc q hc=>by
  by_cases e:c=j
  .subst e;rw[(H.dom c).1 hj]at hc;cases hc
  .rw[zao _ _ e];exact hc
 have key:∀c q,(upd ρ j (sS p)) c=sS q->Real ((upd m j (.G_ p b)) c) q->ρ c=sS q/\Real (m c) q:=λc q hc hr=>by
  by_cases e:c=j
  .subst e;rw[zam]at hr;exact hr.elim
  .rw[zao _ _ e]at hc hr;exact⟨hc,hr⟩
 refine⟨⟨H.pers,λc=>?_,λc q hc=>?_,λc d q r hc hd hrc hrd e=>?_,λc q hc hr=>H.sep c q (key c q hc hr).1 (key c q hc hr).2⟩,fU h,λB _ _=>rfl,aJ _,λB _ _=>rfl,λc q hc hr=>.inr ⟨c,q,(key c q hc hr).1,(key c q hc hr).2,rfl⟩⟩
 .by_cases e:c=j
  .subst e;rw[zam,zam];simp
  .rw[zao _ _ e,zao _ _ e];exact H.dom c
 .by_cases e:c=j
  .subst e;rw[zam]at hc⊢;cases hc;exact⟨rfl,by rw[zao _ _ _A];exact hb⟩
  .rw[zao _ _ e]at hc⊢;exact iw.congr (fU h) rle rfl (H.own c q hc)
 .let⟨h1,h2⟩:=key c q hc hrc;let⟨h3,h4⟩:=key d r hd hrd;exact H.inj c d q r h1 h3 h2 h4 e
def E_.more(H:E_ h ρ m w)(hs:w.size<=w'.size)(hw:∀B,B<w.size->w'[B]?=w[B]?):E_ h ρ m w'/\tY h ρ m w h ρ m w':=
⟨H.grow (fU h) (λB o e=>by rw[hw B (H.lt e)];exact H.pers B o e) (λB hB _=>⟨hw B hB,rfl⟩),fU h,λB _ _=>rfl,hs,λB hB _=>hw B hB,λb p hp hr=>.inr ⟨b,p,hp,hr,rfl⟩⟩
end
end Go.Abs
namespace Go.Gr
open Go.Abs Go.Proofs Tryz
noncomputable abbrev Pg:Program:=Tryz.prog
def gm:Pg.follows .mixedOrders=tT:=Tryz.checked.mixed
def Xa:List (List TY):=
 let p:=.o (.sc (.pointer nN)) 8;let f:=.o (.sc .nilFunc) 8;let q:=.o (.sc .nilIface) 16;let n:=.i .i64
 [[.s,f,n,n,.b,.i .u8,.i .u8,.r 4 24 [2,3,4,6],.r 4 24 [2,3,4,6],.s,.s,.s,.i .u64,.r 2 24 [9,12],.r 2 24 [9,12],p],
  [p,p,.r 1 8 [17],.r 1 8 [17],q,.i .i32,.l 69,f,.l 63,.l 288,.r 3 56 [24,3,25],.r 3 56 [24,3,25],.s,f,f,.l 49],
  [f,.l 3,.l 9,.l 34,.l 105,.l 52,.r 7 136 [33,34,35,36,37,3,4],.r 7 136 [33,34,35,36,37,3,4],n,.s,f,f,.l 61,.l 47,.r 8 152 [3,3,9,33,34,44,36,45],.r 8 152 [3,3,9,33,34,44,36,45]],
  [.r 10 176 [9,3,47],.r 10 176 [9,3,47],.l 58,.r 3 40 [3,3,50],.r 3 40 [3,3,50],f,f,.s,f,.r 4 32 [3,3,3,3],.r 4 32 [3,3,3,3],f,.r 4 72 [3,9,34,44],.r 4 72 [3,9,34,44],.r 13 240 [9,61,47],.r 13 240 [9,61,47]],
  [.r 4 56 [34,3,3,9],.r 4 56 [34,3,3,9],f,f,.r 2 32 [9,9],.r 2 32 [9,9],.l 123,.l 174,.r 3 32 [9,3,3],.r 3 32 [9,3,3],.r 6 104 [34,70,71,73],.r 6 104 [34,70,71,73],.l 118,.s,f,.s],
  [f,f,p,.l 87,.r 2 32 [83,3],.r 2 32 [83,3],.r 11 200 [9,47,33,3],.r 11 200 [9,47,33,3],f,.r 0 0 [],.r 0 0 [],.s,p,.m 3 3,.m 9 3,p],
  [f,.r 11 168 [39,93,94,95,93],.r 11 168 [39,93,94,95,93],f,f,f,f,.l 161,.r 5 120 [33,103,34,36,36],.r 5 120 [33,103,34,36,36],f,f,f,.r 4 32 [3,3,3,3],.r 4 32 [3,3,3,3],.s],
  [f,.s,f,f,f,.r 4 32 [3,3,3,40],.r 4 32 [3,3,3,40],f,.l 178,.l 129,.r 2 48 [120,121],.r 2 48 [120,121],.l 221,.l 127,.r 8 120 [3,9,3,3,3,44,34,125],.r 8 120 [3,9,3,3,3,44,34,125]],
  [.r 15 224 [9,4,124,9,44,127,3,3],.r 15 224 [9,4,124,9,44,127,3,3],p,p,.l 140,.r 2 32 [3,132],.r 2 32 [3,132],.r 17 272 [75,131,27,76,3,34,44,40,3,3],.r 17 272 [75,131,27,76,3,34,44,40,3,3],.s,f,.r 3 40 [3,3,44],.r 3 40 [3,3,44],f,f,f],
  [f,f,.r 2 32 [34,94],.r 2 32 [34,94],.l 147,.m 334 3,.r 2 32 [148,149],.r 2 32 [148,149],p,.r 3 40 [92,3,50],.r 3 40 [92,3,50],.l 3,f,f,f,f],
  [.r 2 24 [9,3],.r 2 24 [9,3],p,.l 206,.r 20 296 [39,33,3,163,65,110,4,3],.r 20 296 [39,33,3,163,65,110,4,3],f,p,.r 5 64 [3,3,9,167,36],.r 5 64 [3,3,9,167,36],f,f,.s,f,.l 73,.s],
  [f,.r 4 56 [9,34,3,3],.r 4 56 [9,34,3,3],.s,f,f,f,f,f,f,f,f,f,f,.s,f],
  [.r 5 88 [9,61],.r 5 88 [9,61],.l 193,f,f,f,f,f,.a 2 2 3,f,f,.l 169,.r 4 64 [3,34,203,3],.r 4 64 [3,34,203,3],p,.r 5 72 [3,3,203,3,36]],
  [.r 5 72 [3,3,203,3,36],f,f,f,p,.s,f,f,f,.l 4,.s,f,.r 5 88 [9,61],.r 5 88 [9,61],f,f],
  [f,f,.l 229,f,.r 6 88 [3,4,61],.r 6 88 [3,4,61],f,f,f,f,f,f,f,f,f,.s],
  [f,f,f,p,f,f,f,f,f,f,f,f,f,f,f,f],
  [f,f,.l 264,.s,f,.r 6 64 [258,3,3,40,3,3],.r 6 64 [258,3,3,40,3,3],.r 4 40 [3,9,3,3],.r 4 40 [3,9,3,3],f,f,f,.s,f,f,f],
  [f,.s,f,f,.s,f,f,f,f,f,f,.s,f,f,f,.r 3 24 [3,3,3]],
  [.r 3 24 [3,3,3],f,.i .u64,f,f,f,p,f,p,f,f,f,f,f,.s,f],
  [f,f,f,f,f,f,f,f,f,f,.l 5,f,f,.s,f,f],
  [f,n,.s,f,f,f,f,f,.i .u32,f,.i .u64,p,f,.r 2 24 [3,9],.r 2 24 [3,9],f],
  [.i .u64,f,f,f,p,f,p,.s,f,f,.r 4 40 [17,17,17,9],.r 4 40 [17,17,17,9],.a 0 0 16,.r 0 0 [348],.r 0 0 [348],f],
  [.i .u8,.i .u8,f,p,.i .i32,.i .i32,.r 11 48 [12,12,328,352,5,5,353,354,355,356,357],.r 11 48 [12,12,328,352,5,5,353,354,355,356,357]]]
def tt(k:Nat):TY:=MJ .s (MJ [] Xa (k/16)) (k%16)
attribute [simp] tt Xa
theorem kR{p:Prop}(h:p:=by kernel_rfl):p:=h
@[simp] def oH(b:Code):MC:=gC tt [] [] [] b
theorem wY{f:FuncId}{N:Nat}{c:MC}{rs:qC}{fn:Func}(h:Pg.funcs[f]?=sS fn)(k:yJ Pg fn N c rs=tT:=by kernel_rfl):WT Pg f N c rs:=wT gm h k
theorem wZ{f:FuncId}{N:Nat}{c:MC}{rs:qC}{fn:Func}(h:Pg.funcs[f]?=sS fn)(k:yJ Pg fn N c rs=tT:=by kernel_rfl):WM Pg f N c rs:=wM gm h k
def Xb:MC:=(λx(_:x=oH (Y_ 0 (gB f196)))=>x) _ (by dsimp[f196])
def Xc:MC:=(λx(_:x=gC tt [] [] [(0,Xb)] (gB f196))=>x) _ (by dsimp[f196])
def zzh:WT Pg 196 52 Xc [.tmp 2,.tmp 3]:=wY func196
def Xd:MC:=(λx(_:x=oH (gB f140))=>x) _ (by dsimp[f140])
def zzi:WT Pg 140 2 Xd [.tmp 0]:=wY func140
def Xe:MC:=(λx(_:x=oH (Y_ 0 (gB f88)))=>x) _ (by dsimp[f88])
def Xf:MC:=(λx(_:x=gC tt [] [] [(0,Xe)] (gB f88))=>x) _ (by dsimp[f88])
def zBI:WT Pg 88 18 Xf [.tmp 2]:=wY func88
def Xg:MC:=(λx(_:x=oH (gB f90))=>x) _ (by dsimp[f90])
def zxh:WT Pg 90 21 Xg [.tmp 2]:=wY func90
def Xh:MC:=(λx(_:x=oH (gB f89))=>x) _ (by dsimp[f89])
def zzj:WT Pg 89 9 Xh [.tmp 2]:=wY func89
def Xi:MC:=(λx(_:x=oH (Y_ 0 (gB f55)))=>x) _ (by dsimp[f55])
def Xj:MC:=(λx(_:x=gC tt [] [] [(0,Xi)] (gB f55))=>x) _ (by dsimp[f55])
def zBJ:WT Pg 55 45 Xj [.tmp 2]:=wY func55
def QG:MC:=(λx(_:x=gC tt [] [(5,[0,1,3,7,15,31,15,15,207,463,1023,2047])] [] (Y_ 0 (gB f198)))=>x) _ (by dsimp[f198])
def QH:MC:=(λx(_:x=gC tt [] [(11,[0,1,0,0,12,31])] [] (Y_ 2 (gB f198)))=>x) _ (by dsimp[f198])
def Xk:MC:=(λx(_:x=gC tt [] [] [(0,QG),(2,QH)] (gB f198))=>x) _ (by dsimp[f198])
def zBK:WT Pg 198 38 Xk [.tmp 2]:=wY func198
def Xl:MC:=(λx(_:x=oH (Y_ 0 (gB f197)))=>x) _ (by dsimp[f197])
def Xm:MC:=(λx(_:x=gC tt [] [] [(0,Xl)] (gB f197))=>x) _ (by dsimp[f197])
def zxi:WT Pg 197 59 Xm [.tmp 2,.tmp 3]:=wY func197
def QI:MC:=(λx(_:x=oH (Y_ 2 (gB f177)))=>x) _ (by dsimp[f177])
def Xn:MC:=(λx(_:x=gC tt [] [] [(2,QI)] (Y_ 0 (gB f177)))=>x) _ (by dsimp[f177])
def Xo:MC:=(λx(_:x=gC tt [] [] [(0,Xn)] (gB f177))=>x) _ (by dsimp[f177])
def zzk:WT Pg 177 50 Xo [.tmp 2]:=wY func177
def QJ:MC:=(λx(_:x=oH (Y_ 0 (gB f178)))=>x) _ (by dsimp[f178])
def Xp:MC:=(λx(_:x=gC tt [] [] [(0,QJ)] (gB f178))=>x) _ (by dsimp[f178])
def zzl:WT Pg 178 115 Xp [.cell 2 tT 4,.tmp 3,.tmp 4]:=wY func178
def QK:MC:=(λx(_:x=oH (Y_ 2 (gB f141)))=>x) _ (by dsimp[f141])
def Xq:MC:=(λx(_:x=gC tt [] [] [(2,QK)] (Y_ 0 (gB f141)))=>x) _ (by dsimp[f141])
def Xr:MC:=(λx(_:x=gC tt [(6,0)] [] [(0,Xq)] (gB f141))=>x) _ (by dsimp[f141])
def zD4:WT Pg 141 86 Xr [.tmp 2,.cell 3 tT 4]:=wY func141
def Xt:MC:=(λx(_:x=gC tt [] [(2,[0,0,2,6,14,0,32,96,224,510,1022,2046,4095,8191,16383]),(3,[0,0,2,6,14,0,32,96,224,510,1022,2046,4095,8191,16383])] [] (gB f149))=>x) _ (by dsimp[f149])
def zBL:WM Pg 149 41 Xt []:=wZ func149
def Xu:MC:=(λx(_:x=gC tt [] [(1,[0,1,3,7,0,16,48,112,255,511,0,2047])] [] (gB f179))=>x) _ (by dsimp[f179])
def zBM:WM Pg 179 37 Xu [.tmp 4]:=wZ func179
def Xv:MC:=(λx(_:x=gC tt [(9,179)] [] [] (gB f142))=>x) _ (by dsimp[f142])
def zBN:WM Pg 142 18 Xv [.tmp 4]:=wZ func142
def Xw:MC:=(λx(_:x=gC tt [(9,142),(9,149)] [] [] (gB f144))=>x) _ (by dsimp[f144])
def zBO:WM Pg 144 12 Xw []:=wZ func144
def Xx:MC:=(λx(_:x=gC tt [(9,149)] [(1,[0,1,3,7,0,16,48,112,255,511,0,2047])] [] (gB f143))=>x) _ (by dsimp[f143])
def zBP:WM Pg 143 35 Xx [.tmp 2]:=wZ func143
def Xy:MC:=(λx(_:x=gC tt [(9,149)] [] [] (gB f182))=>x) _ (by dsimp[f182])
def zzm:WM Pg 182 22 Xy [.tmp 2]:=wZ func182
def Xz:MC:=(λx(_:x=gC tt [(9,182),(9,199),(9,142),(9,180)] [] [] (gB f180))=>x) _ (by dsimp[f180])
def zBQ:WM Pg 180 31 Xz [.cell 2 tT 4]:=wZ func180
def YA:MC:=(λx(_:x=gC tt [(9,142),(9,214)] [] [] (Y_ 0 (gB f199)))=>x) _ (by dsimp[f199])
def YB:MC:=(λx(_:x=gC tt [(9,214),(1,8),(4,19)] [] [(0,YA)] (gB f199))=>x) _ (by dsimp[f199])
def zD5:WM Pg 199 27 YB [.cell 2 tT 4]:=wZ func199
def YC:MC:=(λx(_:x=gC tt [(9,142)] [] [] (Y_ 0 (gB f214)))=>x) _ (by dsimp[f214])
def YD:MC:=(λx(_:x=gC tt [(9,143),(9,144),(9,180),(9,142)] [] [] (Y_ 2 (gB f214)))=>x) _ (by dsimp[f214])
def YE:MC:=(λx(_:x=gC tt [(9,142),(9,180),(9,144),(9,143),(5,43),(4,45),(4,68)] [] [(0,YC),(2,YD)] (gB f214))=>x) _ (by dsimp[f214])
def zBR:WM Pg 214 71 YE [.cell 2 tT 4]:=wZ func214
def YF:MC:=(λx(_:x=gC tt [(9,142),(9,180)] [] [] (gB f181))=>x) _ (by dsimp[f181])
def zBS:WM Pg 181 13 YF [.tmp 2]:=wZ func181
def YG:MC:=(λx(_:x=gC tt [] [(1,[0,0,2,6,14,0,32,96,224,510,1022,2046,0,4096,12288,28672,0,65536,196608,458752,1044480,2093056,4190208,8388607,16777215])] [] (gB f200))=>x) _ (by dsimp[f200])
def zGC:WM Pg 200 29 YG [.cell 4 tT 8]:=wZ func200
def YH:MC:=(λx(_:x=gC tt [(9,182),(9,183)] [] [] (gB f148))=>x) _ (by dsimp[f148])
def zBT:WM Pg 148 20 YH [.cell 2 tT 8]:=wZ func148
def YI:MC:=(λx(_:x=gC tt [(9,200),(9,142),(9,143),(9,181),(9,144),(9,148),(9,147),(9,201)] [] [] (gB f183))=>x) _ (by dsimp[f183])
def zBU:WM Pg 183 76 YI [.cell 2 tT 8]:=wZ func183
def IQ:MC:=(λx(_:x=gC tt [(9,144),(9,143),(9,181),(7,1)] [] [] (gB f147))=>x) _ (by dsimp[f147])
def Ja:WM Pg 147 26 IQ [.tmp 2,.tmp 3]:=wZ func147
def YJ:MC:=(λx(_:x=gC tt [(9,200),(9,142),(9,201)] [] [] (Y_ 0 (gB f201)))=>x) _ (by dsimp[f201])
def M0:MC:=(λx(_:x=gC tt [(9,215),(9,216),(9,201)] [] [(0,YJ)] (gB f201))=>x) _ (by dsimp[f201])
def QL:WM Pg 201 72 M0 [.cell 4 tT 8]:=wZ func201
def YK:MC:=(λx(_:x=gC tt [(9,142),(9,201)] [] [] (Y_ 0 (gB f216)))=>x) _ (by dsimp[f216])
def YL:MC:=(λx(_:x=gC tt [(9,142)] [] [] (Y_ 2 (gB f216)))=>x) _ (by dsimp[f216])
def YM:MC:=(λx(_:x=gC tt [(9,201),(9,200),(9,142),(9,180),(9,149)] [] [(0,YK),(2,YL)] (gB f216))=>x) _ (by dsimp[f216])
def zD6:WM Pg 216 76 YM [.cell 2 tT 8]:=wZ func216
def YN:MC:=(λx(_:x=gC tt [(9,182),(9,200),(9,142),(9,215),(9,222)] [] [] (gB f215))=>x) _ (by dsimp[f215])
def zzn:WM Pg 215 39 YN [.cell 2 tT 8]:=wZ func215
def YO:MC:=(λx(_:x=gC tt [(9,200),(9,142),(9,148),(9,144),(9,143)] [] [] (Y_ 0 (gB f222)))=>x) _ (by dsimp[f222])
def YP:MC:=(λx(_:x=gC tt [(9,224)] [] [(0,YO)] (gB f222))=>x) _ (by dsimp[f222])
def zBV:WM Pg 222 33 YP [.cell 2 tT 8]:=wZ func222
def YQ:MC:=(λx(_:x=gC tt [(9,200),(9,142),(9,144),(9,148),(9,225),(9,143),(9,226)] [(2,[0,1,3,7,0,16,48,112,255,511,0,2047])] [] (gB f224))=>x) _ (by dsimp[f224])
def zBW:WM Pg 224 125 YQ [.cell 2 tT 8]:=wZ func224
def YR:MC:=(λx(_:x=gC tt [(9,180),(9,142)] [] [] (Y_ 0 (gB f226)))=>x) _ (by dsimp[f226])
def YS:MC:=(λx(_:x=gC tt [(4,16),(9,144),(6,0)] [] [(0,YR)] (gB f226))=>x) _ (by dsimp[f226])
def zzo:WM Pg 226 19 YS [.tmp 2]:=wZ func226
def YT:MC:=(λx(_:x=gC tt [(9,143),(9,144),(9,148),(9,142)] [] [] (Y_ 0 (gB f225)))=>x) _ (by dsimp[f225])
def YU:MC:=(λx(_:x=gC tt [(0,3),(9,142),(9,148),(9,144),(9,143),(4,106),(6,0)] [(4,[0,1,3,7,0,16,48,112,255,511,0,2047]),(5,[0,1,3,7,15,31,63,127,255,511,1023,2047,4095,8191,16383,2047,34815,100351,231423,493567,1048575,2097151,4194303,8388607,16777215,33554431,67108863,134217727,268435455,536870911,67108863,1140850687,3288334335,7583301631,16173236223,34359738367,68719476735,137438953471,274877906943,549755813887])] [(0,YT)] (gB f225))=>x) _ (by dsimp[f225])
def zxk:WM Pg 225 109 YU [.cell 4 tT 8]:=wZ func225
def YV:MC:=(λx(_:x=gC tt [(9,143),(9,142),(7,1)] [] [] (Y_ 0 (gB f145)))=>x) _ (by dsimp[f145])
def YW:MC:=(λx(_:x=gC tt [(6,0)] [] [(0,YV)] (gB f145))=>x) _ (by dsimp[f145])
def zzp:WM Pg 145 17 YW [.tmp 2]:=wZ func145
def YX:MC:=(λx(_:x=gC tt [(9,143),(9,142),(9,180)] [] [] (Y_ 0 (gB f146)))=>x) _ (by dsimp[f146])
def YY:MC:=(λx(_:x=gC tt [(9,142),(4,27),(9,144),(6,0)] [] [(0,YX)] (gB f146))=>x) _ (by dsimp[f146])
def zBX:WM Pg 146 30 YY [.tmp 2]:=wZ func146
def QM:MC:=(λx(_:x=gC tt [(9,142),(9,143),(9,144),(9,145)] [(3,[0,1,3,7,0,16,48,112,255,511,1023,0,2048,6144,14336,0,32768,98304,229376,522240,1046528,2095104,4194303,0,16777215])] [] (Y_ 0 (gB f92)))=>x) _ (by dsimp[f92])
def QN:MC:=(λx(_:x=gC tt [(9,142),(9,144),(9,143),(9,146),(9,147),(4,131),(9,148)] [(11,[0,1,3,7,15,31,63,127,255,511,63,1087,3135,7231,16383,32767,65535,131071,262143]),(13,[0,1,3,7,0,16,48,112,255,511,1023,2047,4095]),(14,[0,1,3,7,0,16,48,112,255,511,1023,2047,4095])] [] (Y_ 2 (gB f92)))=>x) _ (by dsimp[f92])
def YZ:MC:=(λx(_:x=gC tt [(6,0),(7,1)] [] [(0,QM),(2,QN)] (gB f92))=>x) _ (by dsimp[f92])
def zxl:WM Pg 92 145 YZ [.cell 2 tT 2]:=wZ func92
def Y0:MC:=(λx(_:x=gC tt [(9,149)] [(1,[0,1,3,7,15,31,63,127,255,511,63,1087,3135,7231,16383,32767,65535,131071,262143]),(3,[0,1,3,7,0,16,48,112,0,256,768,1792,4095,8191])] [] (gB f93))=>x) _ (by dsimp[f93])
def zD7:WM Pg 93 37 Y0 [.cell 2 tT 4]:=wZ func93
def Y1:MC:=(λx(_:x=gC tt [(0,13)] [(2,[0,1,3,0,7,31])] [] (gB f91))=>x) _ (by dsimp[f91])
def zxm:WM Pg 91 15 Y1 [.tmp 2,.cell 3 tT 4]:=wZ func91
def Y2:MC:=(λx(_:x=gC tt [(9,91),(9,92),(9,93)] [(3,[0,0,1,7]),(7,[0,0,1,7]),(8,[0,0,1,7])] [] (gB f56))=>x) _ (by dsimp[f56])
def zzq:WT Pg 56 28 Y2 [.cell 2 tT 2,.cell 3 tT 4]:=wY func56
def Y3:MC:=(λx(_:x=oH (Y_ 0 (gB f185)))=>x) _ (by dsimp[f185])
def Y4:MC:=(λx(_:x=gC tt [] [] [(0,Y3)] (gB f185))=>x) _ (by dsimp[f185])
def zBk:WT Pg 185 31 Y4 [.tmp 4]:=wY func185
def Y5:MC:=(λx(_:x=oH (gB f151))=>x) _ (by dsimp[f151])
def zBl:WT Pg 151 5 Y5 [.tmp 2]:=wY func151
def Y6:MC:=(λx(_:x=oH (gB f150))=>x) _ (by dsimp[f150])
def zwz:WT Pg 150 5 Y6 [.tmp 2]:=wY func150
def Y7:MC:=(λx(_:x=oH (Y_ 0 (gB f184)))=>x) _ (by dsimp[f184])
def M3:MC:=(λx(_:x=gC tt [] [] [(0,Y7)] (gB f184))=>x) _ (by dsimp[f184])
def QO:WT Pg 184 31 M3 [.tmp 4]:=wY func184
def QP:MC:=(λx(_:x=gC tt [] [(6,[0,1,0,7,15,0,32,0,224,480,1023])] [] (Y_ 0 (gB f95)))=>x) _ (by dsimp[f95])
def QQ:MC:=(λx(_:x=gC tt [] [(11,[0,1,0,7,15,0,32,0,224,480,1023,2047])] [] (Y_ 2 (gB f95)))=>x) _ (by dsimp[f95])
def Y8:MC:=(λx(_:x=gC tt [] [] [(0,QP),(2,QQ)] (gB f95))=>x) _ (by dsimp[f95])
def zBm:WT Pg 95 76 Y8 [.tmp 4]:=wY func95
def Y9:MC:=(λx(_:x=oH (gB f94))=>x) _ (by dsimp[f94])
def zBn:WT Pg 94 24 Y9 [.cell 2 tT 4,.tmp 3]:=wY func94
def QR:MC:=(λx(_:x=oH (Y_ 1 (gB f152)))=>x) _ (by dsimp[f152])
def Ya:MC:=(λx(_:x=gC tt [(4,50),(4,64),(6,1)] [] [(1,QR)] (gB f152))=>x) _ (by dsimp[f152])
def zBo:WT Pg 152 68 Ya [.cell 2 tT 4,.tmp 3]:=wY func152
def QS:MC:=(λx(_:x=gC tt [] [(9,[0,0,2,6,15,31,63,127,63,511,1023,63,63,6207,14399,32767,65535])] [] (Y_ 2 (gB f186)))=>x) _ (by dsimp[f186])
def Yb:MC:=(λx(_:x=gC tt [] [(11,[0,1,3,7,7,23,55,127,255,511,1023,511,4095,8191,511,511,49663,115199,262143,524287,1048575])] [(2,QS)] (Y_ 0 (gB f186)))=>x) _ (by dsimp[f186])
def Yc:MC:=(λx(_:x=gC tt [(6,0)] [] [(0,Yb)] (gB f186))=>x) _ (by dsimp[f186])
def zwA:WT Pg 186 117 Yc [.cell 4 tT 4,.tmp 5]:=wY func186
def Yd:MC:=(λx(_:x=oH (Y_ 0 (gB f187)))=>x) _ (by dsimp[f187])
def QT:MC:=(λx(_:x=gC tt [] [(20,[0,1,0,0,12,28,60,127,255,511]),(22,[0,0,3,7,0,16,0,64,192,448,1008,2032,4095,8191])] [] (Y_ 4 (gB f187)))=>x) _ (by dsimp[f187])
def Ye:MC:=(λx(_:x=gC tt [] [] [(4,QT)] (Y_ 2 (gB f187)))=>x) _ (by dsimp[f187])
def Yf:MC:=(λx(_:x=gC tt [(6,0),(6,2)] [(27,[0,0,2,6,14,1,63])] [(0,Yd),(2,Ye)] (gB f187))=>x) _ (by dsimp[f187])
def zy7:WT Pg 187 102 Yf [.cell 2 tT 4,.tmp 3]:=wY func187
def Yg:MC:=(λx(_:x=oH (gB f163))=>x) _ (by dsimp[f163])
def zDE:WT Pg 163 15 Yg [.tmp 2]:=wY func163
def Yh:MC:=(λx(_:x=oH (gB f70))=>x) _ (by dsimp[f70])
def zBp:WT Pg 70 22 Yh [.tmp 2]:=wY func70
def QU:MC:=(λx(_:x=gC tt [] [(19,[0,0,2,0,14,30,63,127,0,256,0,1792,3840,7936,16383,32767])] [] (Y_ 1 (gB f112)))=>x) _ (by dsimp[f112])
def QV:MC:=(λx(_:x=oH (Y_ 3 (gB f112)))=>x) _ (by dsimp[f112])
def Yi:MC:=(λx(_:x=gC tt [] [(22,[0,1,3,7,15,31,0,64,192,448,991,2047,4095])] [(1,QU),(3,QV)] (gB f112))=>x) _ (by dsimp[f112])
def zBq:WT Pg 112 90 Yi [.tmp 4]:=wY func112
def Yj:MC:=(λx(_:x=oH (gB f60))=>x) _ (by dsimp[f60])
def zwB:WT Pg 60 19 Yj [.tmp 2]:=wY func60
def Yk:MC:=(λx(_:x=oH (Y_ 0 (gB f113)))=>x) _ (by dsimp[f113])
def Yl:MC:=(λx(_:x=gC tt [] [(17,[0,0,2,0,14,30,62,0,128,0,896,1920,4094,8190,16383,32767])] [] (Y_ 2 (gB f113)))=>x) _ (by dsimp[f113])
def QW:MC:=(λx(_:x=gC tt [(6,0),(6,2)] [(13,[0,1,0,7,15,31])] [(0,Yk),(2,Yl)] (gB f113))=>x) _ (by dsimp[f113])
def Ym:WT Pg 113 65 QW [.tmp 2]:=wY func113
def Yn:MC:=(λx(_:x=oH (Y_ 0 (gB f154)))=>x) _ (by dsimp[f154])
def Yo:MC:=(λx(_:x=gC tt [] [] [(0,Yn)] (gB f154))=>x) _ (by dsimp[f154])
def zBr:WT Pg 154 25 Yo [.cell 4 tT 6,.tmp 5]:=wY func154
def Yp:MC:=(λx(_:x=oH (Y_ 0 (gB f155)))=>x) _ (by dsimp[f155])
def Yq:MC:=(λx(_:x=gC tt [] [] [(0,Yp)] (gB f155))=>x) _ (by dsimp[f155])
def zy8:WT Pg 155 27 Yq [.cell 4 tT 4,.tmp 5]:=wY func155
def QX:MC:=(λx(_:x=gC tt [] [(15,[0,0,2,6,0,30,62,127,255,511,511,0,3071,8191]),(16,[0,1,3,7,7,23,55,7,247,503,7,2047,4095,8191])] [] (Y_ 2 (gB f98)))=>x) _ (by dsimp[f98])
def Yr:MC:=(λx(_:x=gC tt [] [(18,[0,1,3,7,15,31,63,127,255,15,527,1551,3599,15,16383,32767,65535,131071,262143,524287,1048575,131071,2228223,6422527,14811135,31588351,131071,134217727,268435455,536870911,1073741823])] [(2,QX)] (Y_ 0 (gB f98)))=>x) _ (by dsimp[f98])
def Yt:MC:=(λx(_:x=gC tt [] [] [(0,Yr)] (gB f98))=>x) _ (by dsimp[f98])
def zy9:WT Pg 98 123 Yt [.tmp 6]:=wY func98
def Yu:MC:=(λx(_:x=oH (gB f110))=>x) _ (by dsimp[f110])
def zDF:WT Pg 110 20 Yu [.tmp 4]:=wY func110
def Yv:MC:=(λx(_:x=oH (gB f65))=>x) _ (by dsimp[f65])
def zBs:WT Pg 65 20 Yv [.tmp 4]:=wY func65
def Yw:MC:=(λx(_:x=oH (Y_ 0 (gB f161)))=>x) _ (by dsimp[f161])
def Yx:MC:=(λx(_:x=gC tt [(4,128),(6,0)] [] [(0,Yw)] (gB f161))=>x) _ (by dsimp[f161])
def zBt:WT Pg 161 136 Yx [.cell 4 tT 4]:=wY func161
def Yy:MC:=(λx(_:x=gC tt [] [(18,[0,1,0,4,0,28,60,124,255,511,1023])] [] (Y_ 0 (gB f160)))=>x) _ (by dsimp[f160])
def Yz:MC:=(λx(_:x=gC tt [(6,0)] [(3,[0,0,1,7]),(6,[0,0,1,7]),(7,[0,1,3,0,7,31]),(10,[0,0,1,7]),(12,[0,0,1,7]),(20,[0,1,0,4,12,28,3,127]),(21,[0,1,0,3,15])] [(0,Yy)] (gB f160))=>x) _ (by dsimp[f160])
def zwC:WT Pg 160 91 Yz [.cell 4 tT 4,.cell 5 tT 4]:=wY func160
def ZA:MC:=(λx(_:x=oH (Y_ 0 (gB f37)))=>x) _ (by dsimp[f37])
def ZB:MC:=(λx(_:x=gC tt [] [] [(0,ZA)] (gB f37))=>x) _ (by dsimp[f37])
def zwD:WT Pg 37 19 ZB [.tmp 4]:=wY func37
def ZC:MC:=(λx(_:x=gC tt [(3,46)] [(10,[0,1,0,0,12,28,60,127,255]),(11,[0,1,0,0,12,28,60,124,255,511,1023])] [] (Y_ 0 (gB f34)))=>x) _ (by dsimp[f34])
def ZE:MC:=(λx(_:x=gC tt [(6,0)] [] [(0,ZC)] (gB f34))=>x) _ (by dsimp[f34])
def zza:WT Pg 34 91 ZE [.cell 2 tT 6,.tmp 3]:=wY func34
def ZF:MC:=(λx(_:x=oH (Y_ 0 (gB f58)))=>x) _ (by dsimp[f58])
def ZG:MC:=(λx(_:x=gC tt [] [] [(0,ZF)] (gB f58))=>x) _ (by dsimp[f58])
def zBu:WT Pg 58 25 ZG [.cell 4 tT 3,.tmp 5]:=wY func58
def ZH:MC:=(λx(_:x=oH (Y_ 0 (gB f38)))=>x) _ (by dsimp[f38])
def ZI:MC:=(λx(_:x=gC tt [] [] [(0,ZH)] (gB f38))=>x) _ (by dsimp[f38])
def zBv:WT Pg 38 22 ZI [.tmp 4]:=wY func38
def ZJ:MC:=(λx(_:x=gC tt [(3,58)] [(9,[0,1,0,7,15,0,32,0,224,480,1023,2047])] [] (Y_ 0 (gB f57)))=>x) _ (by dsimp[f57])
def ZK:MC:=(λx(_:x=gC tt [(6,0),(7,1)] [(5,[0,0,2,1,15])] [(0,ZJ)] (gB f57))=>x) _ (by dsimp[f57])
def zrG:WM Pg 57 100 ZK [.tmp 8,.tmp 9]:=wZ func57
def QY:MC:=(λx(_:x=gC tt [(9,57)] [(11,[0,0,0,4,0,28,60,0,255,511,1023,1023,2047,8191])] [] (Y_ 2 (gB f35)))=>x) _ (by dsimp[f35])
def QZ:MC:=(λx(_:x=gC tt [(3,65)] [(19,[0,0,0,4,0,28,60,124,0,256,0,1792,3840,7936,16382,32766,65535,131071])] [] (Y_ 4 (gB f35)))=>x) _ (by dsimp[f35])
def ZL:MC:=(λx(_:x=gC tt [(4,98),(6,2)] [] [(2,QY),(4,QZ)] (Y_ 0 (gB f35)))=>x) _ (by dsimp[f35])
def ZM:MC:=(λx(_:x=gC tt [(6,0)] [] [(0,ZL)] (gB f35))=>x) _ (by dsimp[f35])
def zwE:WT Pg 35 104 ZM [.tmp 2,.tmp 3]:=wY func35
def Q0:MC:=(λx(_:x=gC tt [] [(13,[0,1,0,0,12,28,60,127,255])] [] (Y_ 4 (gB f59)))=>x) _ (by dsimp[f59])
def Q3:MC:=(λx(_:x=gC tt [] [] [(4,Q0)] (Y_ 2 (gB f59)))=>x) _ (by dsimp[f59])
def ZN:MC:=(λx(_:x=gC tt [] [] [(2,Q3)] (Y_ 0 (gB f59)))=>x) _ (by dsimp[f59])
def ZO:MC:=(λx(_:x=gC tt [(1,16)] [] [(0,ZN)] (gB f59))=>x) _ (by dsimp[f59])
def zvO:WT Pg 59 69 ZO [.tmp 6]:=wY func59
def Q4:MC:=(λx(_:x=gC tt [] [(9,[0,1,0,0,12,28,60,127,255]),(12,[0,0,0,0,12,28,60,0,0,384,896,1920,4094,8190,16383,32767])] [] (Y_ 2 (gB f36)))=>x) _ (by dsimp[f36])
def ZP:MC:=(λx(_:x=gC tt [] [] [(2,Q4)] (Y_ 0 (gB f36)))=>x) _ (by dsimp[f36])
def ZQ:MC:=(λx(_:x=gC tt [(6,0)] [] [(0,ZP)] (gB f36))=>x) _ (by dsimp[f36])
def zzb:WT Pg 36 61 ZQ [.tmp 2]:=wY func36
def ZR:MC:=(λx(_:x=gC tt [] [(20,[0,0,0,4,0,16,62,126,1,511])] [] (gB f19))=>x) _ (by dsimp[f19])
def zBw:WT Pg 19 88 ZR [.cell 2 tT 6,.tmp 3]:=wY func19
def Q5:MC:=(λx(_:x=gC tt [(7,1)] [(7,[0,0,3,7,0,16,63])] [] (Y_ 0 (gB f153)))=>x) _ (by dsimp[f153])
def Q6:MC:=(λx(_:x=gC tt [(9,153),(7,1)] [] [] (Y_ 2 (gB f153)))=>x) _ (by dsimp[f153])
def Q7:MC:=(λx(_:x=gC tt [(0,3),(6,2),(7,1)] [] [(0,Q5),(2,Q6)] (gB f153))=>x) _ (by dsimp[f153])
def ZT:WM Pg 153 73 Q7 [.cell 6 tT 4,.tmp 7]:=wZ func153
def Q8:MC:=(λx(_:x=gC tt [(9,153)] [] [] (gB f96))=>x) _ (by dsimp[f96])
def ZU:WM Pg 96 39 Q8 [.cell 6 tT 4,.tmp 7]:=wZ func96
def ZV:MC:=(λx(_:x=gC tt [(9,96)] [(11,[0,0,3,7,15,0,0,0,192,511,1023,2047,2047,0,12287,32767]),(12,[0,0,3,7,0,31,63])] [] (Y_ 0 (gB f158)))=>x) _ (by dsimp[f158])
def ZW:MC:=(λx(_:x=gC tt [(6,0)] [] [(0,ZV)] (gB f158))=>x) _ (by dsimp[f158])
def zCA:WT Pg 158 69 ZW [.tmp 4]:=wY func158
def ZX:MC:=(λx(_:x=gC tt [] [(6,[0,1,0,7,15,0,32,0,224,480,1023,2047])] [] (Y_ 0 (gB f61)))=>x) _ (by dsimp[f61])
def ZY:MC:=(λx(_:x=gC tt [] [] [(0,ZX)] (gB f61))=>x) _ (by dsimp[f61])
def zCB:WT Pg 61 48 ZY [.tmp 4]:=wY func61
def ZZ:MC:=(λx(_:x=oH (Y_ 0 (gB f39)))=>x) _ (by dsimp[f39])
def Z0:MC:=(λx(_:x=gC tt [] [(10,[0,1,3,7,0,31,63,0,255,511])] [] (Y_ 2 (gB f39)))=>x) _ (by dsimp[f39])
def Z4:MC:=(λx(_:x=gC tt [] [(13,[0,1,3,7,15,0,32,96,224,511]),(15,[0,0,2,6,14,0,32,126,255,511,1023])] [(0,ZZ),(2,Z0)] (gB f39))=>x) _ (by dsimp[f39])
def zrb:WM Pg 39 71 Z4 [.tmp 4,.tmp 5]:=wZ func39
def Z5:MC:=(λx(_:x=oH (gB f66))=>x) _ (by dsimp[f66])
def zCC:WT Pg 66 5 Z5 [.cell 2 tT 4]:=wY func66
def Z6:MC:=(λx(_:x=oH (Y_ 0 (gB f62)))=>x) _ (by dsimp[f62])
def Z7:MC:=(λx(_:x=gC tt [(6,0)] [] [(0,Z6)] (gB f62))=>x) _ (by dsimp[f62])
def zCD:WT Pg 62 22 Z7 [.tmp 2]:=wY func62
def Z8:MC:=(λx(_:x=oH (Y_ 0 (gB f156)))=>x) _ (by dsimp[f156])
def Z9:MC:=(λx(_:x=gC tt [] [] [(0,Z8)] (gB f156))=>x) _ (by dsimp[f156])
def zCE:WT Pg 156 21 Z9 [.tmp 4]:=wY func156
def Za:MC:=(λx(_:x=gC tt [] [(1,[0,1,0,0,12,28,63,127])] [] (gB f159))=>x) _ (by dsimp[f159])
def zCF:WT Pg 159 14 Za [.tmp 6]:=wY func159
def Zb:MC:=(λx(_:x=oH (gB f97))=>x) _ (by dsimp[f97])
def zCG:WM Pg 97 25 Zb []:=wZ func97
def Zc:MC:=(λx(_:x=gC tt [(9,97)] [] [] (gB f67))=>x) _ (by dsimp[f67])
def zHu:WM Pg 67 13 Zc []:=wZ func67
def Zd:MC:=(λx(_:x=gC tt [(9,96),(9,97)] [(1,[0,0,2,6,14,0,32,96,224,511,1023,2047,2047,0,12287,32767])] [] (gB f63))=>x) _ (by dsimp[f63])
def zvX:WM Pg 63 31 Zd [.cell 8 tT 4]:=wZ func63
def Ze:MC:=(λx(_:x=gC tt [(9,67)] [] [] (gB f64))=>x) _ (by dsimp[f64])
def zCH:WM Pg 64 20 Ze [.cell 6 tT 4]:=wZ func64
def Zf:MC:=(λx(_:x=gC tt [] [(3,[0,0,2,6,14,30,0,64,192,448,0,1024,0,4096,16320,32704,65534,131071,262143,524287,1048575]),(4,[0,1,3,7,15,31,63,0,0,384,0,1024,4095,8191])] [] (gB f111))=>x) _ (by dsimp[f111])
def zCI:WM Pg 111 50 Zf [.cell 10 tT 8]:=wZ func111
def Zg:MC:=(λx(_:x=gC tt [(9,111),(9,67)] [] [] (gB f69))=>x) _ (by dsimp[f69])
def zyr:WM Pg 69 34 Zg [.cell 10 tT 8]:=wZ func69
def Zh:MC:=(λx(_:x=gC tt [(9,96)] [(1,[0,1,3,7,15,0,32,127,255,511,0,1024,4095,8191,0,32767])] [] (gB f188))=>x) _ (by dsimp[f188])
def zs7:WM Pg 188 71 Zh [.cell 6 tT 4,.tmp 7]:=wZ func188
def Zi:MC:=(λx(_:x=gC tt [(9,188),(9,67),(9,39)] [(5,[0,1,3,7,0,16,0,64,0,496,1023,2047,4095,4095,8191,32767]),(8,[0,1,0,3,15])] [] (gB f157))=>x) _ (by dsimp[f157])
def zys:WM Pg 157 51 Zi [.cell 8 tT 8,.cell 9 tT 4]:=wZ func157
def Zj:MC:=(λx(_:x=gC tt [(9,63)] [(22,[0,0,2,0,14,30,0,64,0,256,1023,0,4095])] [] (Y_ 0 (gB f99)))=>x) _ (by dsimp[f99])
def Zk:MC:=(λx(_:x=gC tt [(9,67),(9,157),(4,146),(6,0)] [(2,[0,1,3,7,15,0,32,96,224,511,1023,0,2048,8191,16383,32767,32767,0,196607,524287]),(5,[0,1,0,0,12,28,60,3,255]),(8,[0,0,3,7]),(11,[0,0,3,7]),(12,[0,1,3,7,15,0,32,127,255,511,0,1024,4095,8191,0,32767]),(15,[0,0,3,7]),(25,[0,0,3,7]),(29,[0,0,3,7])] [(0,Zj)] (gB f99))=>x) _ (by dsimp[f99])
def zzI:WM Pg 99 162 Zk [.cell 6 tT 8,.cell 7 tT 4]:=wZ func99
def mM:MC:=(λx(_:x=gC tt [(9,99),(9,100),(9,101),(9,102),(9,103),(9,104),(9,105),(9,106),(9,107),(9,108),(9,109)] [(5,[0,1,3,0,15,31]),(7,[0,1,3,0,15,31]),(9,[0,1,3,0,15,31])] [] (gB f68))=>x) _ (by dsimp[f68])
def xw:WM Pg 68 130 mM [.cell 6 tT 8,.cell 7 tT 4]:=wZ func68
def Zl:MC:=(λx(_:x=gC tt [(9,68),(9,63),(9,69)] [(3,[0,0,2,6,14,0,32,0,128,511,0,2047]),(4,[0,0,0,0,0,16,48,112,255,511]),(6,[0,0,2,6,14,0,0,64,0,480,1023,2047,4095,4095,0,0,57343,131071]),(7,[0,0,3,7,0,15,63])] [] (gB f100))=>x) _ (by dsimp[f100])
def zE9:WM Pg 100 73 Zl [.cell 6 tT 8,.cell 7 tT 4]:=wZ func100
def Zm:MC:=(λx(_:x=gC tt [(9,63),(9,68),(9,69),(9,64)] [(1,[0,0,2,6,14,0,32,0,128,511,0,2047]),(4,[0,0,2,6,14,0,32,0,128,511,1023]),(5,[0,0,2,6,14,0,0,64,0,480,1023,2047,4095,4095,0,0,57343,131071]),(7,[0,0,0,0,0,16,48,112,255,511]),(10,[0,1,3,0,7,31])] [] (gB f101))=>x) _ (by dsimp[f101])
def zHv:WM Pg 101 84 Zm [.cell 6 tT 8,.cell 7 tT 4]:=wZ func101
def Zn:MC:=(λx(_:x=gC tt [(9,68),(9,111),(9,67),(9,69)] [(10,[0,0,0,0,8,24,56,0,128,384,896,2047,4095]),(11,[0,0,3,7,0,16,48,112,15,511])] [] (gB f102))=>x) _ (by dsimp[f102])
def zCJ:WM Pg 102 75 Zn [.cell 6 tT 8,.cell 7 tT 4]:=wZ func102
def Zo:MC:=(λx(_:x=gC tt [(9,67)] [(7,[0,1,0,7,15,0,32,0,224,480,1023])] [] (Y_ 2 (gB f103)))=>x) _ (by dsimp[f103])
def Zp:MC:=(λx(_:x=gC tt [] [] [(2,Zo)] (Y_ 0 (gB f103)))=>x) _ (by dsimp[f103])
def Zq:MC:=(λx(_:x=gC tt [(9,68)] [] [] (Y_ 4 (gB f103)))=>x) _ (by dsimp[f103])
def Zr:MC:=(λx(_:x=gC tt [(9,64),(4,81),(6,4)] [(18,[0,0,1,7])] [(0,Zp),(4,Zq)] (gB f103))=>x) _ (by dsimp[f103])
def zyu:WM Pg 103 84 Zr [.cell 6 tT 8,.cell 7 tT 4]:=wZ func103
def Zt:MC:=(λx(_:x=gC tt [(9,68),(9,111),(9,67)] [(9,[0,1,0,4,15,0,31,127])] [] (gB f104))=>x) _ (by dsimp[f104])
def zFa:WM Pg 104 56 Zt [.cell 6 tT 8,.cell 7 tT 4]:=wZ func104
def Q9:MC:=(λx(_:x=gC tt [] [(14,[0,1,0,7,15,0,32,127]),(15,[0,1,0,4,0,28,60,124,255,511,1023]),(16,[0,1,0,4,0,28,60,124,255,511,1023])] [] (Y_ 0 (gB f105)))=>x) _ (by dsimp[f105])
def Zu:MC:=(λx(_:x=gC tt [(9,68),(9,111),(9,67),(1,56),(1,58),(9,64),(4,98)] [(18,[0,1,0,0,12,31,0,63,255])] [(0,Q9)] (gB f105))=>x) _ (by dsimp[f105])
def zzJ:WM Pg 105 106 Zu [.cell 6 tT 8,.cell 7 tT 4]:=wZ func105
def Zv:MC:=(λx(_:x=gC tt [(9,68),(9,69),(4,90)] [(3,[0,0,0,0,0,31,63]),(9,[0,0,3,7,15,0,32,127,255,511,511,0,0,7167,16383]),(15,[0,0,0,0,0,16,48,112,255,511]),(16,[0,0,0,0,0,16,48,112,255,511]),(17,[0,0,0,7,15,0,31,127])] [] (gB f106))=>x) _ (by dsimp[f106])
def zyv:WM Pg 106 130 Zv [.cell 6 tT 8,.cell 7 tT 4]:=wZ func106
def Zw:MC:=(λx(_:x=gC tt [(9,68),(9,63),(9,111)] [(3,[0,0,1,7]),(4,[0,0,2,6,14,0,32,0,128,511,0,2047]),(6,[0,0,1,7]),(9,[0,0,0,0,0,31,63]),(11,[0,0,1,7]),(13,[0,0,0,0,0,31,0,63,255]),(14,[0,1,0,0,12,0,32,127,0,255,1023])] [] (gB f107))=>x) _ (by dsimp[f107])
def zHw:WM Pg 107 85 Zw [.cell 6 tT 8,.cell 7 tT 4]:=wZ func107
def Zx:MC:=(λx(_:x=gC tt [(9,68),(9,69)] [] [] (gB f162))=>x) _ (by dsimp[f162])
def zCK:WM Pg 162 24 Zx [.cell 8 tT 8]:=wZ func162
def Zy:MC:=(λx(_:x=gC tt [] [(24,[0,0,3,7,0,16,63])] [] (Y_ 1 (gB f108)))=>x) _ (by dsimp[f108])
def Zz:MC:=(λx(_:x=gC tt [(9,162),(9,68)] [(4,[0,0,2,6,14,0,0,127,0,511]),(5,[0,0,2,6,14,0,0,127,0,511]),(6,[0,0,0,7,15,0,31,127]),(8,[0,0,2,6,14,0,0,127,0,511]),(9,[0,0,2,6,14,0,0,127,0,511]),(10,[0,0,0,7,15,0,31,127]),(14,[0,0,3,7,0,15,63]),(16,[0,0,2,6,14,0,0,127,0,511]),(17,[0,0,2,6,14,0,0,127,0,511]),(18,[0,0,3,7,0,31,63]),(26,[0,0,2,6,14,0,0,127,0,511]),(27,[0,0,2,6,14,0,0,127,0,511]),(31,[0,0,0,6,15,0,31,127])] [(1,Zy)] (gB f108))=>x) _ (by dsimp[f108])
def zHx:WM Pg 108 167 Zz [.cell 6 tT 8,.cell 7 tT 4]:=wZ func108
def zvt:MC:=(λx(_:x=gC tt [(9,162),(9,68)] [(3,[0,0,2,6,14,0,0,127,0,511]),(4,[0,1,3,0,15,31]),(6,[0,0,2,6,14,0,0,127,0,511]),(7,[0,1,3,0,15,31]),(10,[0,1,0,4,15,0,63,127]),(12,[0,1,3,0,15,31])] [] (gB f109))=>x) _ (by dsimp[f109])
def zFb:WM Pg 109 76 zvt [.cell 6 tT 8,.cell 7 tT 4]:=wZ func109
def Qa:MC:=(λx(_:x=oH (Y_ 0 (gB f40)))=>x) _ (by dsimp[f40])
def zli:MC:=(λx(_:x=gC tt [(9,63),(1,74),(9,64),(4,84),(5,87),(4,111),(9,67),(9,68),(9,69)] [(1,[0,1,3,7,15,0,32,127,255,511,0,1024,4095,8191,0,32767]),(7,[0,0,2,6,14,0,32,0,128,511,0,2047]),(8,[0,0,2,6,14,0,32,0,128,511,0,2047]),(12,[0,0,3,7]),(13,[0,1,0,4,12,28,60,124,255,511,1023,2047,1023,5119,13311,29695,62463,127999,262143,524287,1048575,2097151,4194303,8388607]),(17,[0,1,3,7,15,0,32,127,255,511,0,1024,4095,8191]),(27,[0,0,2,6,14,30,0,0,0,448,960,2046,4095,8191,16383,32767]),(29,[0,0,2,6,14,0,32,0,128,384,896,0,2048,6144,14336,0,32768,98304,229376,524256,1048544,2097150,4194303,8388607,16777215])] [(0,Qa)] (gB f40))=>x) _ (by dsimp[f40])
def ztX:WM Pg 40 216 zli []:=wZ func40
def zlj:MC:=(λx(_:x=gC tt [(9,39),(7,1)] [(12,[0,0,0,4,0,16,0,126,254,1,1023])] [] (Y_ 2 (gB f20)))=>x) _ (by dsimp[f20])
def zlk:MC:=(λx(_:x=gC tt [] [] [(2,zlj)] (Y_ 0 (gB f20)))=>x) _ (by dsimp[f20])
def zll:MC:=(λx(_:x=gC tt [(9,40)] [] [] (Y_ 4 (gB f20)))=>x) _ (by dsimp[f20])
def zox:MC:=(λx(_:x=gC tt [(0,13),(0,15),(6,0),(7,1)] [(20,[0,0,2,6,14,1,63])] [(0,zlk),(4,zll)] (gB f20))=>x) _ (by dsimp[f20])
def zzK:WT Pg 20 125 zox [.cell 2 tT 3,.tmp 3]:=wY func20
def Qb:MC:=(λx(_:x=oH (Y_ 0 (gB f8)))=>x) _ (by dsimp[f8])
def zlm:MC:=(λx(_:x=gC tt [] [] [(0,Qb)] (gB f8))=>x) _ (by dsimp[f8])
def zvY:WT Pg 8 55 zlm [.cell 2 tT 3,.tmp 3]:=wY func8
def zoy:MC:=(λx(_:x=oH (Y_ 0 (gB f18)))=>x) _ (by dsimp[f18])
def ztb:MC:=(λx(_:x=gC tt [] [] [(0,zoy)] (gB f18))=>x) _ (by dsimp[f18])
def zFc:WT Pg 18 40 ztb [.tmp 2]:=wY func18
end Go.Gr
namespace Go.Gr
open Go.Abs Go.Proofs
structure Ins where
 op:Int
 a:Int
 b:Int
 c:Int
def Ins.enc(i:Ins):oQ:=[.int .i64 i.op,.int .i64 i.a,.int .i64 i.b,.int .i64 i.c]
structure jv where
 k_:Int
 p_:Int
 code:List Ins
def jv.enc(p:jv):oQ:=[.int .i64 p.k_,.int .i64 p.p_,.sl oK 4 (p.code.map Ins.enc)]
def encI(l:oW):o5:=l.map λi=>[.int .i64 i]
def encS(l:oN):o5:=l.map λs=>[.str s]
def u?(l:sG):o5:=l.map λx=>[.str x.1,.int .i64 x.2]
inductive gT where
|mk (tags:List Int) (i_:List (fD × Int)) (a_:List fD) (fields fn:List gT)
abbrev sN:=List gT
mutual
def gT.enc:gT->List D
|.mk t n s f g=>[.sl oK 1 (encI t),.sl oK 2 (u? n),.sl oK 1 (encS s),.sl oK 5 (gT.j? f),.sl oK 5 (gT.j? g)]
def gT.j?:List gT->List (List D)
|[]=>[]
|c::cs=>gT.enc c::gT.j? cs
end
def gT.q?(l:List gT):gT.j? l=l.map gT.enc:=by
 induction l with
 |nil=>simp[gT.j?]
 |cons c l ih=>simp[gT.j?,ih]
structure iN where
 ints:List Int
 L?:List fD
 J_:List (List fD)
 cos:List gT
 procs:List jv
 main:Int
 merge:Bool
def iN.enc(c:iN):oQ:=[.sl oK 1 (encI c.ints),.sl oK 1 (encS c.L?),.sl oK 1 (c.J_.map λl=>[.sl oK 1 (encS l)]),.sl oK 5 (c.cos.map gT.enc),.sl oK 3 (c.procs.map jv.enc),.int .i64 c.main,.bool c.merge]
@[simp] theorem Ins.F_(i:Ins):lN i.enc=4:=rfl
@[simp] theorem Ins.enc_0(i:Ins):i.enc[0]?=sS (.int .i64 i.op):=rfl
@[simp] theorem Ins.enc_1(i:Ins):i.enc[1]?=sS (.int .i64 i.a):=rfl
@[simp] theorem Ins.enc_2(i:Ins):i.enc[2]?=sS (.int .i64 i.b):=rfl
@[simp] theorem Ins.enc_3(i:Ins):i.enc[3]?=sS (.int .i64 i.c):=rfl
@[simp] theorem jv.F_(p:jv):lN p.enc=3:=rfl
@[simp] theorem jv.enc_0(p:jv):p.enc[0]?=sS (.int .i64 p.k_):=rfl
@[simp] theorem jv.enc_1(p:jv):p.enc[1]?=sS (.int .i64 p.p_):=rfl
@[simp] theorem jv.enc_2(p:jv):p.enc[2]?=sS (.sl oK 4 (p.code.map Ins.enc)):=rfl
@[simp] theorem iN.F_(c:iN):lN c.enc=7:=rfl
@[simp] theorem iN.enc_0(c:iN):c.enc[0]?=sS (.sl oK 1 (encI c.ints)):=rfl
@[simp] theorem iN.enc_1(c:iN):c.enc[1]?=sS (.sl oK 1 (encS c.L?)):=rfl
@[simp] theorem iN.enc_2(c:iN):c.enc[2]?=sS (.sl oK 1 (c.J_.map λl=>[.sl oK 1 (encS l)])):=rfl
@[simp] theorem iN.enc_3(c:iN):c.enc[3]?=sS (.sl oK 5 (c.cos.map gT.enc)):=rfl
@[simp] theorem iN.enc_4(c:iN):c.enc[4]?=sS (.sl oK 3 (c.procs.map jv.enc)):=rfl
@[simp] theorem iN.enc_5(c:iN):c.enc[5]?=sS (.int .i64 c.main):=rfl
@[simp] theorem iN.enc_6(c:iN):c.enc[6]?=sS (.bool c.merge):=rfl
@[simp] theorem Ins.cut_enc(i:Ins):cut i.enc 0 4=i.enc:=rfl
@[simp] theorem jv.cut_enc(p:jv):cut p.enc 0 3=p.enc:=rfl
@[simp] theorem iN.cut_enc(c:iN):cut c.enc 0 7=c.enc:=rfl
@[simp] theorem Ins.cut_map(i:Ins):cut (i.enc.map AC.d) 0 4=i.enc.map .d:=rfl
@[simp] theorem jv.cut_map(p:jv):cut (p.enc.map AC.d) 0 3=p.enc.map .d:=rfl
@[simp] theorem iN.cut_map(c:iN):cut (c.enc.map AC.d) 0 7=c.enc.map .d:=rfl
@[simp] theorem Qc(l:oW):(encI l).length=lN l:=by simp[encI]
@[simp] theorem Jb(l:oN):(encS l).length=lN l:=by simp[encS]
@[simp] theorem Qd(l:sG):(u? l).length=lN l:=by simp[u?]
@[simp] theorem zMy(l:oW)(k:Nat):(encI l)[k]?=(l[k]?).map λi=>[.int .i64 i]:=by simp[encI]
@[simp] theorem zMz(l:oN)(k:Nat):(encS l)[k]?=(l[k]?).map λi=>[.str i]:=by simp[encS]
def gT.tags:gT->oW|.mk t _ _ _ _=>t
def gT.i_:gT->sG|.mk _ n _ _ _=>n
def gT.a_:gT->oN|.mk _ _ s _ _=>s
def gT.fields:gT->List gT|.mk _ _ _ f _=>f
def gT.fn:gT->List gT|.mk _ _ _ _ g=>g
def gT.l_(d:gT):d.enc=[.sl oK 1 (encI d.tags),.sl oK 2 (u? d.i_),.sl oK 1 (encS d.a_),.sl oK 5 (d.fields.map gT.enc),.sl oK 5 (d.fn.map gT.enc)]:=by
 cases d with
 |mk t n s f g=>simp[gT.enc,gT.q?,gT.tags,gT.i_,gT.a_,gT.fields,gT.fn]
@[simp] theorem gT.F_(d:gT):lN d.enc=5:=by simp[gT.l_]
@[simp high] theorem gT.enc_0(d:gT):d.enc[0]?=sS (.sl oK 1 (encI d.tags)):=by simp[gT.l_]
@[simp high] theorem gT.enc_1(d:gT):d.enc[1]?=sS (.sl oK 2 (u? d.i_)):=by simp[gT.l_]
@[simp high] theorem gT.enc_2(d:gT):d.enc[2]?=sS (.sl oK 1 (encS d.a_)):=by simp[gT.l_]
@[simp high] theorem gT.enc_3(d:gT):d.enc[3]?=sS (.sl oK 5 (d.fields.map gT.enc)):=by simp[gT.l_]
@[simp high] theorem gT.enc_4(d:gT):d.enc[4]?=sS (.sl oK 5 (d.fn.map gT.enc)):=by simp[gT.l_]
end Go.Gr
namespace Go.Gr
open Go.Abs Go.Proofs List
inductive f_ where
|mk (d_:Int) (name:fD) (a_:List fD) (b_:List f_)
abbrev sV:=List (fD × f_)
abbrev oL:=List f_
mutual
def f_.enc:f_->List D
|.mk k n s l=>[.int .i64 k,.str n,.sl oK 1 (encS s),.sl oK 4 (f_.j? l)]
def f_.j?:List f_->List (List D)
|[]=>[]
|t::l=>f_.enc t::f_.j? l
end
def f_.q?(l:List f_):f_.j? l=l.map f_.enc:=by
 induction l with
 |nil=>simp[f_.j?]
 |cons c l ih=>simp[f_.j?,ih]
def f_.d_:f_->Int|.mk k _ _ _=>k
def f_.name:f_->fD|.mk _ n _ _=>n
def f_.a_:f_->oN|.mk _ _ s _=>s
def f_.b_:f_->List f_|.mk _ _ _ l=>l
def f_.l_(t:f_):t.enc=[.int .i64 t.d_,.str t.name,.sl oK 1 (encS t.a_),.sl oK 4 (t.b_.map f_.enc)]:=by
 cases t;simp[f_.enc,f_.q?,f_.d_,f_.name,f_.a_,f_.b_]
@[simp] theorem f_.F_(t:f_):lN t.enc=4:=by rw[t.l_];try rfl
@[simp] theorem f_.enc_0(t:f_):t.enc[0]?=sS (.int .i64 t.d_):=by rw[t.l_];try rfl
@[simp] theorem f_.enc_1(t:f_):t.enc[1]?=sS (.str t.name):=by rw[t.l_];try rfl
@[simp] theorem f_.enc_2(t:f_):t.enc[2]?=sS (.sl oK 1 (encS t.a_)):=by rw[t.l_];try rfl
@[simp] theorem f_.enc_3(t:f_):t.enc[3]?=sS (.sl oK 4 (t.b_.map f_.enc)):=by rw[t.l_];try rfl
@[simp] theorem f_.enc_g0(t:f_)(h:0<lN t.enc):t.enc[0]=.int .i64 t.d_:=by have:=t.enc_0;rw[aA h]at this;exact bu this
@[simp] theorem f_.enc_g2(t:f_)(h:2<lN t.enc):t.enc[2]=.sl oK 1 (encS t.a_):=by have:=t.enc_2;rw[aA h]at this;exact bu this
@[simp] theorem f_.enc_g3(t:f_)(h:3<lN t.enc):t.enc[3]=.sl oK 4 (t.b_.map f_.enc):=by have:=t.enc_3;rw[aA h]at this;exact bu this
def C_:f_:=.mk 0 (bs []) [] []
structure Tok where
 d_:Int
 text:fD
 line:Int
 t_:Int
abbrev sF:=List Tok
def Tok.enc(t:Tok):oQ:=[.int .i64 t.d_,.str t.text,.int .i64 t.line,.int .i64 t.t_]
def Ai:Tok:=⟨0,bs [],0,0⟩
@[simp] theorem Tok.F_(t:Tok):lN t.enc=4:=rfl
@[simp] theorem Tok.enc_0(t:Tok):t.enc[0]?=sS (.int .i64 t.d_):=rfl
@[simp] theorem Tok.enc_1(t:Tok):t.enc[1]?=sS (.str t.text):=rfl
@[simp] theorem Tok.enc_2(t:Tok):t.enc[2]?=sS (.int .i64 t.line):=rfl
@[simp] theorem Tok.enc_3(t:Tok):t.enc[3]?=sS (.int .i64 t.t_):=rfl
@[simp] theorem Tok.enc_g0(t:Tok)(h:0<lN t.enc):t.enc[0]=.int .i64 t.d_:=rfl
@[simp] theorem Tok.enc_g1(t:Tok)(h:1<lN t.enc):t.enc[1]=.str t.text:=rfl
@[simp] theorem Tok.enc_g2(t:Tok)(h:2<lN t.enc):t.enc[2]=.int .i64 t.line:=rfl
@[simp] theorem Tok.enc_g3(t:Tok)(h:3<lN t.enc):t.enc[3]=.int .i64 t.t_:=rfl
@[simp] theorem Tok.cut_enc(t:Tok):cut t.enc 0 4=t.enc:=rfl
@[simp] theorem Tok.cut_map(t:Tok):cut (t.enc.map AC.d) 0 4=t.enc.map .d:=rfl
inductive o_ where
|mk (d_:Int) (text:fD) (n line t_:Int) (types:List f_) (a_:List fD) (b_:List o_)
abbrev sJ:=List o_
mutual
def o_.enc:o_->List D
|.mk k t n a b ts ns ks=>[.int .i64 k,.str t,.int .i64 n,.int .i64 a,.int .i64 b,.sl oK 4 (ts.map f_.enc),.sl oK 1 (encS ns),.sl oK 8 (o_.j? ks)]
def o_.j?:List o_->List (List D)
|[]=>[]
|n::l=>o_.enc n::o_.j? l
end
def o_.q?(l:List o_):o_.j? l=l.map o_.enc:=by
 induction l with
 |nil=>rfl
 |cons n l ih=>simp[o_.j?,ih]
def uC:o_:=.mk 0 (bs []) 0 0 0 [] [] []
def o_.d_:o_->Int|.mk k _ _ _ _ _ _ _=>k
def o_.text:o_->fD|.mk _ t _ _ _ _ _ _=>t
def o_.n:o_->Int|.mk _ _ n _ _ _ _ _=>n
def o_.line:o_->Int|.mk _ _ _ a _ _ _ _=>a
def o_.t_:o_->Int|.mk _ _ _ _ b _ _ _=>b
def o_.types:o_->List f_|.mk _ _ _ _ _ t _ _=>t
def o_.a_:o_->oN|.mk _ _ _ _ _ _ s _=>s
def o_.b_:o_->List o_|.mk _ _ _ _ _ _ _ l=>l
def o_.l_(t:o_):t.enc=[.int .i64 t.d_,.str t.text,.int .i64 t.n,.int .i64 t.line,.int .i64 t.t_,.sl oK 4 (t.types.map f_.enc),.sl oK 1 (encS t.a_),.sl oK 8 (t.b_.map o_.enc)]:=by
 cases t;simp[o_.enc,o_.q?,o_.d_,o_.text,o_.n,o_.line,o_.t_,o_.types,o_.a_,o_.b_]
@[simp] theorem o_.F_(t:o_):lN t.enc=8:=by rw[t.l_];try rfl
end Go.Gr
