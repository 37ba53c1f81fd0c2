/- Texts of ours, joined and written short by a program of ours. -/
import Derived.Test.YtnbgmeamdkggeaaGreatDoorJ18
import Derived.Test.YtnbgmeamdkggeaaGreatDoorLayJ
import Derived.Lib.ItoaLen
import Derived.Test.YtnbgmeamdkggeaaGreatDoorJ15
import Derived.Test.YtnbgmeamdkggeaaGreatDoorJ06
import Derived.WalkKit
import Derived.Defers
import Derived.Recover
import Derived.Test.YtnbgmeamdkggeaaGreatDoorJ14
import Derived.Test.YtnbgmeamdkggeaaGreatDoorJ13
import Derived.Test.YtnbgmeamdkggeaaGreatDoorJ12
import Derived.Tactics
import Derived.Tactics2
import Derived.Laws.Pointers
import Derived.Laws.LoneSync
import Derived.RegionTactic
import Derived.RegionCalls
import Derived.ChangeAlike
import Derived.Laws.ByValue
set_option maxRecDepth 20000
set_option maxHeartbeats 4000000
set_option linter.unusedVariables false
set_option linter.unusedSectionVars false
set_option linter.unusedSimpArgs false
set_option linter.defProp false
set_option linter.unnecessarySimpa false
namespace Go.Gr
open Go.Abs Go.Proofs
def uV(n:Int):di:=if -9223372036854775808<=n/\n<=9223372036854775807 then⟨(Lib.itoa n).toArray⟩else bs []
def P7(n:Int):(uV n).size<=1000:=by
 unfold uV;split
 ·rename_i h;have:=Lib.itoa_length_le n h.1 h.2;show(Lib.itoa n).toArray.size<=1000;simp only[List.size_toArray];omega
 ·decide
theorem zFU {h : PH} {w : World} (hp : ∀ B o, h B = some o -> w.heap[B]? = some o) (hG : Gnd Pg h) : Lib.TabIs Tryz.prog w "internal/strconv.uint64pow10" .u64 Lib.pow10Tab := by
 have hs : (Pg.globalNamed "internal/strconv.uint64pow10").isSome = true := by kernel_rfl
 obtain⟨g,hg⟩:=bF.1 hs;obtain⟨o,h1,h2⟩:=hG.2 g hg;exact h2 w (hp g o h1)
def zEw(n:Int):fu Pg 48 [.one (.int .i64 n)] (.one (.str (uV n))):=by
 refine⟨by decide+kernel,λh w argsC hp hG hS r=>?_⟩
 match argsC,r with
 | [v],r=>
  simp only[ja,jZ,Abs.RepD,and_true,Kw,Ky]at r;obtain⟨rfl,r1,r2⟩:=r;refine(Tryz.strconv_Itoa n r1 r2 w (zFU hp hG)).mono λe w' q=>?_;obtain⟨rfl,k,os,rfl⟩:=q;have hsz:w.heap.size<=(Sort.grow (w.drewN k) os).heap.size:=by
   show w.heap.size<=((w.drewN k).heap++os).size;simp
  have hbl:∀B,B<w.heap.size->(Sort.grow (w.drewN k) os).heap[B]?=w.heap[B]?:=λB hB=>by
   show((w.drewN k).heap++os)[B]?=_;rw[Array.getElem?_append_left (by simpa using hB)];simp
  refine⟨_,h,rfl,eZ h,λB hB=>rfl,λB o e=>?_,hsz,hbl,⟨rfl,rfl,rfl⟩,?_⟩
  ·have h1:=hp B o e;have h2:B<w.heap.size:=by
    rcases aX B w.heap.size with g|g
    ·exact g
    ·rw[af g]at h1;cases h1
   rw[hbl B h2];exact h1
  ·simp only[jZ,Abs.RepD];have e:uV n=⟨(Lib.itoa n).toArray⟩:=aB ⟨r1,r2⟩;refine⟨by rw[e],?_⟩;have:=P7 n;simp only[zao];omega
def zwr(n:Int):fu Pg 21 [.one (.int .i64 n)] (.one (.str (uV n))):=by
 refine zyE (by simp) λo c hN hp=>?_;unfold zq0;simp;refine fU (zEw n) ?_;simp
end Go.Gr
namespace Go.Gr
open Go.Abs Go.Proofs List
def BI(xs:List di)(sep:di):di:=⟨(Lib.join (xs.map (·.data.toList)) sep.data.toList).toArray⟩
theorem zwy{h:PH}:∀{xs:List di} {vs:List Value},Abs.RepE h 1 (encS xs) vs->∀(j:Nat) (x:di),xs[j]?=some x->vs[j]?=some (.string x)
|[],_,_,j,x,hj=>by simp at hj
|y::xs,[],r,_,_,_=>by
 have e:encS (y::xs)=[.str y]::encS xs:=rfl;rw[e]at r;simp[Abs.RepE,RepL]at r
| y::xs,v::vs,r,j,x,hj=>by
 have e:encS (y::xs)=[.str y]::encS xs:=rfl;rw[e]at r;simp only[Abs.RepE,RepL,Abs.RepD,drop_one,tail_cons]at r;cases j with
 |zero=>
  simp only[getElem?_cons_zero,aO]at hj⊢;subst hj;exact r.2.1.1.2.1
 |succ j=>
  simp only[getElem?_cons_succ]at hj⊢;exact zwy r.2.2 j x hj
def zEF(xs:List di)(sep:di)(hl:(Lib.join (xs.map (·.data.toList)) sep.data.toList).length<=140737488355328)(hn:xs.length<=140737488355328):fu Pg 25 [.one (.sl false 1 (encS xs)),.one (.str sep)] (.one (.str (BI xs sep))):=by
 refine⟨by decide+kernel,λh w argsC hp hG hS r=>?_⟩
 match argsC,r with
 | [v, u],r=>
  simp only[ja,jZ,Abs.RepD,and_true]at r;obtain⟨⟨a,cap,rfl,r2,_,r4,r5,r6,r7⟩,rfl,_⟩:=r;have hlt:∀B o,h B=some o->B<w.heap.size:=λB o e=>by
   have h1:=hp B o e;rcases aX B w.heap.size with g|g
   ·exact g
   ·rw[af g]at h1;cases h1
  have fin:∀(w':World),Go.RowKit.Below w.heap.size w w'->∃(vC:Value) (h':PH),Ending.returned (.string (BI xs sep))=.returned vC/\h.le h'/\(∀B,B<w.heap.size->h' B=h B)/\(∀B o,h' B=some o->w'.heap[B]?=some o)/\w.heap.size<=w'.heap.size/\(∀B,B<w.heap.size->w'.heap[B]?=w.heap[B]?)/\Same w w'/\jZ h' (.one (.str (BI xs sep))) vC:=λw' b=>by
   refine⟨_,h,rfl,eZ h,λB hB=>rfl,λB o e=>by rw[b.block B (hlt B o e)];exact hp B o e,b.size,λB hB=>b.block B hB,⟨b.os,b.tape,b.output⟩,?_⟩;simp only[jZ,Abs.RepD];refine⟨trivial,?_⟩;show(Lib.join _ _).toArray.size<=zao;simp only[size_toArray,zao];omega
  cases xs with
  |nil=>
   refine(Tryz.strings_Join_none a cap sep w).mono λe w' q=>?_;obtain⟨rfl,rfl⟩:=q;exact fin _ ⟨rfl,rfl,rfl,aK _,λ_ _=>rfl⟩
  | cons x xs=>
   cases a with
   |none=>have:=(r5 rfl).1;simp[encS]at this
   | some p=>
    have hc:0<cap:=by simp[encS]at r2;omega
    have hsp:=r6 p rfl hc;obtain⟨bk,o,sp⟩:=p;simp only at hsp;subst hsp;have hx:=zwy r7;have cells:∀(j:Nat) y,(x::xs)[j]?=some y->w.cell? ⟨bk,o+j,none⟩=some (.string y):=λj y hj=>by
     have h1:=hx j y hj;simp only[cellsAt,hcells]at h1;cases e:h bk with
     |none=>rw[e]at h1;simp at h1
     | some ob=>
      rw[e]at h1;have hw:=hp bk ob e;cases ob with
      |cells c T f=>
       simp only[bG]at h1;simp only[World.cell?,hw];simpa using h1
      |_=>simp at h1
    have hbk:bk<w.heap.size:=by
     have h1:=cells 0 x rfl;rcases aX bk w.heap.size with g|g
     ·exact g
     ·simp[World.cell?,af g]at h1
    have el:(encS (x::xs)).length=(x::xs).length:=by simp[encS]
    rw[el];refine(Tryz.strings_Join bk o cap (x::xs) sep w cells hbk hn (by rw[<-el];exact r2) hl).mono λe w' q=>?_;obtain⟨rfl,b⟩:=q;exact fin _ b
structure qL (q:di->di):Prop where
 ok:∀s:di,s.size<=64->fu Pg 49 [.one (.str s)] (.one (.str (q s)))
 sz:∀s:di,s.size<=64->(q s).size<=100000
section
variable {q:di->di} (hq:qL q)
include hq
def zCU(s:di)(h:s.size<=64):fu Pg 22 [.one (.str s)] (.one (.str (q s))):=by
 refine zqZ (by simp) λo c hN hp=>?_;unfold PO;simp;apply fM<;>intro g
 ·simp at g;omega
 ·refine fU (hq.ok s h) ?_;simp
theorem zCV(s:di)(h:64<s.size):fu Pg 22 [.one (.str s)] (.one (.str (q (s.extract 0 64)++bs [46,46]))):=by
 refine zqZ (by simp) λo c hN hp=>?_;unfold PO;simp;apply fM<;>intro g
 ·have es:(s.extract 0 64).size<=64:=by simp;omega
  have hz:=hq.sz (s.extract 0 64) es;refine⟨by omega,fU (hq.ok _ es) ?_⟩;have b2:(bs [46,46]).size=2:=rfl;simp;simp only[zao];omega
 ·simp at g;omega
omit hq
def yI(q:di->di)(s:di):di:=if 64<s.size then q (s.extract 0 64)++bs [46,46]else q s
include hq
def zEK(s:di):fu Pg 22 [.one (.str s)] (.one (.str (yI q s))):=by
 unfold yI;by_cases h:64<s.size
 ·rw[aB h];exact zCV hq s h
 ·rw[aA h];exact zCU hq s (by omega)
theorem zEL(s:di):(yI q s).size<=100010:=by
 unfold yI;have b2:(bs [46,46]).size=2:=rfl;by_cases h:64<s.size
 ·rw[aB h,aY,b2];have:=hq.sz (s.extract 0 64) (by simp;omega);omega
 ·rw[aA h];have:=hq.sz s (by omega);omega
omit hq
def yJ(q:di->di):Val->di
|.bool b=>if b=true then bs [116,114,117,101]else bs [102,97,108,115,101]
|.int n=>uV n
|.str s=>yI q s
|.fn _ _=>bs [102,110]
|_=>bs [110,117,108,108]
include hq
def P8(v:Val):(yJ q v).size<=100010:=by
 cases v with
 |bool b=>cases b<;>exact(show(bs _).size<=100010 by decide)
 |int n=>have:=P7 n;show(uV n).size<=100010;omega
 |str s=>exact zEL hq s
 |_=>exact(show(bs _).size<=100010 by decide)
def EK(t:Nat × Nat)(v:Val)(h:v.tag≠4):fu Pg 12 [.one (v.enc t)] (.one (.str (yJ q v))):=by
 show fu Pg 12 _ _;cases v with
 |bool b=>
  refine EI (by simp) λo c hN hp=>?_;unfold Cg;cases b<;>simp[Val.enc,yJ]
 |int n=>
  refine EI (by simp) λo c hN hp=>?_;unfold Cg;simp[Val.enc,yJ];refine fU (zwr n) ?_;simp
 |str s=>
  refine EI (by simp) λo c hN hp=>?_;unfold Cg;simp[Val.enc,yJ];refine fU (zEK hq s) ?_;simp
 |fn b sc=>
  refine EI (by simp) λo c hN hp=>?_;unfold Cg;simp[Val.enc,yJ,Gf]
 |null=>
  refine EI (by simp) λo c hN hp=>?_;unfold Cg;simp[Val.enc,yJ]
 |rcd ns vs=>exact absurd rfl h
omit hq
def mO(q:di->di)(ns:List di)(vs:List Val)(n:di):di:=
 n++bs [58,32]++(match lW ns vs n with|some w=>if w.tag=4 then bs [123,46,46,125]else yJ q w|none=>bs [])
def EL(q:di->di):Val->di
|.rcd ns vs=>bs [123]++BI ((zi0 ns).map (mO q ns vs)) (bs [44,32])++bs [125]
|v=>yJ q v
def zsp(sep:List UInt8)(M:Nat):∀(r:List (List UInt8)),(∀x,x∈r->x.length<=M)->(Lib.joinTail sep r).length<=r.length*(M+sep.length)
|[],_=>by simp[Lib.joinTail]
|x::r,h=>by
 have:=zsp sep M r λy hy=>h y (by simp[hy]);have h1:=h x (by simp);have e:Lib.joinTail sep (x::r)=(sep++x)++Lib.joinTail sep r:=by simp[Lib.joinTail]
 rw[e,aR,aR,length_cons,Nat.succ_mul];omega
def zEM(sep:List UInt8)(M:Nat)(r:List (List UInt8))(h:∀x,x∈r->x.length<=M):(Lib.join r sep).length<=r.length*(M+sep.length):=by
 cases r with
 |nil=>simp[Lib.join_nil]
 |cons x r=>
  rw[Lib.join_cons,aR,length_cons,Nat.succ_mul];have:=zsp sep M r λy hy=>h y (by simp[hy]);have h1:=h x (by simp);omega
theorem zEN(hq:qL q){ns:List di}{vs:List Val}{n:di}(h:n.size<=70000):(mO q ns vs n).size<=171000:=by
 unfold mO;have b2:(bs [58,32]).size=2:=rfl;rw[aY,aY,b2];have:(match lW ns vs n with|some w=>if w.tag=4 then bs [123,46,46,125]else yJ q w|none=>bs []).size<=100010:=by
  split
  ·split
   ·exact(show(bs [123,46,46,125]).size<=100010 by decide)
   ·exact P8 hq _
  ·exact(show(bs []).size<=100010 by decide)
 omega
theorem zwC(hq:qL q){ns:List di}{vs:List Val}(l:List di)(hl:l.length<=50000000)(h:∀x,x∈l->x.size<=70000):(Lib.join ((l.map (mO q ns vs)).map (·.data.toList)) (bs [44,32]).data.toList).length<=10000000000000:=by
 have h1:=zEM (bs [44,32]).data.toList 171000 ((l.map (mO q ns vs)).map (·.data.toList)) λx hx=>by
  obtain⟨y,hy,rfl⟩:=bI.1 hx;obtain⟨n,hn,rfl⟩:=bI.1 hy;have:=zEN hq (ns:=ns) (vs:=vs) (h n hn);simpa using this
 have b2:(bs [44,32]).data.toList.length=2:=rfl;rw[b2]at h1;simp only[ah]at h1;have:=bL (171000+2) hl;omega
def zvz{α β:Type}(g:α->β)(L:List α)(i:Nat)(h:i<L.length)(y:β)(hy:g L[i]=y):take i (take i (L.map g))++[y]=take (i+1) (L.map g):=by
 rw[take_take,Nat.min_self,take_add_one,getElem?_map,aD h];simp[hy]
set_option maxHeartbeats 8000000 in
theorem zCW(hq:qL q)(t:Nat × Nat)(ns:List di)(vs:List Val)(hn:ns.Nodup)(hlv:ns.length=vs.length)(hl:ns.length<=50000000)(hz:∀x,x∈ns->x.size<=70000):fu Pg 12 [.one (.ifc 109 false [Jl t ns vs])] (.one (.str (EL q (.rcd ns vs)))):=by
 obtain⟨o1,o2,o3⟩:=P6 ns hn;refine EI (by simp) λo c hN hp=>?_;unfold Cg;simp;refine fO [] (zwv t ns vs) ?_;simp;refine fO [0] (ztJ t ns vs hn hlv (by omega)) ?_;simp;refine eY [.t 8] ?_;simp;refine eQ gD hp PN [8,40] (λi:Nat=>i<=(zi0 ns).length) (λi=>[.c (.msl 1 0 0 i),.c (.d (.int .i64 i))]) (λi=>[.arr 1 ((encS (((zi0 ns).take i).map (mO q ns vs))).map (·.map .d))]) (λi=>(zi0 ns).length-i) 0 [1] (by simp) (by simp[PN,encS]) λi hi=>?_;unfold zqx PN;simp;apply fM<;>intro g
 ·have hi':i<(zi0 ns).length:=by simpa using g
  have hm:(zi0 ns)[i]∈ns:=(o3 _).1 (ai hi');have hx:=hz _ hm;obtain⟨w,hw⟩:=PW hlv hm;have hfd:=Gi t (zi0 ns)[i] ns vs 0 hlv;rw[hw]at hfd;obtain⟨j,hfd⟩:=hfd;have htk:(zi0 ns).take (i+1)=(zi0 ns).take i++[(zi0 ns)[i]]:=by rw[take_add_one,aD hi'];try rfl
  have htb:=P8 hq w;have b2:(bs [58,32]).size=2:=rfl;have b4:(bs [123,46,46,125]).size=4:=rfl;simp[hi',encS,hfd];refine zw6 (t:=t) w ?_;simp;apply fM<;>intro g4
  ·have h4:w.tag≠4:=by simpa using g4
   refine fU (EK hq t w h4) ?_;have hrow:mO q ns vs (zi0 ns)[i]=(zi0 ns)[i]++bs [58,32]++yJ q w:=by unfold mO;rw[hw];simp only[aA h4]
   simp;refine⟨by simp only[zao];omega,by simp only[zao];omega,by omega,by omega,?_⟩;refine dm (i+1) [1] hi' (by omega) ?_;simp;refine⟨wI,zvz _ _ _ hi' _ (by simp[hrow]),λx hx=>?_⟩;obtain⟨a,_,rfl⟩:=bI.1 (cZ hx);simp
  ·have h4:w.tag=4:=by simpa using g4
   have hrow:mO q ns vs (zi0 ns)[i]=(zi0 ns)[i]++bs [58,32]++bs [123,46,46,125]:=by unfold mO;rw[hw];simp only[aB h4]
   refine⟨by simp only[zao];omega,by simp only[zao];omega,by omega,by omega,?_⟩;refine dm (i+1) [1] hi' (by omega) ?_;simp;refine⟨wI,zvz _ _ _ hi' _ (by simp[hrow]),λx hx=>?_⟩;obtain⟨a,_,rfl⟩:=bI.1 (cZ hx);simp
 ·have hi':i=(zi0 ns).length:=by simp at g;omega
  subst hi';have etk:take (zi0 ns).length (List.map (mO q ns vs) (zi0 ns))=List.map (mO q ns vs) (zi0 ns):=aH (by simp);rw[etk];refine eU [0] ?_;have hj:=zwC hq (ns:=ns) (vs:=vs) (zi0 ns) (by omega) (λx hx=>hz x ((o3 x).1 hx));have e0:take (zi0 ns).length (encS (List.map (mO q ns vs) (zi0 ns)))=encS (List.map (mO q ns vs) (zi0 ns)):=aH (by simp);simp[e0];refine fU (zEF ((zi0 ns).map (mO q ns vs)) (bs [44,32]) (by omega) (by simp;omega)) ?_;have c1:(bs [123]).size=1:=rfl;have c2:(bs [125]).size=1:=rfl;have hjz:(BI ((zi0 ns).map (mO q ns vs)) (bs [44,32])).size<=10000000000000:=by
   unfold BI;show(Lib.join _ _).toArray.size<=_;simp only[size_toArray];exact hj
  simp[EL];simp only[zao];omega
def zEO(hq:qL q)(t:Nat × Nat)(T:Nat)(v:Val)(hT:T<=40000000)(ov:okV 120006 T v):fu Pg 12 [.one (v.enc t)] (.one (.str (EL q v))):=by
 cases v with
 |rcd ns vs=>
  rw[okV]at ov;exact zCW hq t ns vs ov.1 ov.2.1 (by omega) ov.2.2.2.1
 |null=>exact EK hq t .null (by decide)
 |bool b=>exact EK hq t (.bool b) (by simp[Val.tag])
 |int n=>exact EK hq t (.int n) (by simp[Val.tag])
 |str s=>exact EK hq t (.str s) (by simp[Val.tag])
 |fn b sc=>exact EK hq t (.fn b sc) (by simp[Val.tag])
theorem told_sz(hq:qL q)(T:Nat)(v:Val)(hT:T<=40000000)(ov:okV 120006 T v):(EL q v).size<=1000000000000000:=by
 have hb:=P8 hq v;cases v with
 | rcd ns vs=>
  rw[okV]at ov;obtain⟨o1,o2,o3⟩:=P6 ns ov.1;have hj:=zwC hq (ns:=ns) (vs:=vs) (zi0 ns) (by omega) (λx hx=>ov.2.2.2.1 x ((o3 x).1 hx));have hjz:(BI ((zi0 ns).map (mO q ns vs)) (bs [44,32])).size<=10000000000000:=by
   unfold BI;show(Lib.join _ _).toArray.size<=_;simp only[size_toArray];exact hj
  have c1:(bs [123]).size=1:=rfl;have c2:(bs [125]).size=1:=rfl;unfold EL;simp only[aY,c1,c2];omega
 |null=>exact aj hb (by decide)
 |bool b=>exact aj hb (by decide)
 |int n=>exact aj hb (by decide)
 |str s=>exact aj hb (by decide)
 |fn b sc=>exact aj hb (by decide)
end
def BJ(q:di->di)(cst:fZ->fZ->Int->Option (List Int)):jP:=⟨AP,EL q,uV,cst⟩
def zwD{q:di->di}(hq:qL q){cst:fZ->fZ->Int->Option (List Int)}(h1:∀(a b:fZ) (n:Int) (l:List Int),cst a b n=some l->∃C:iJ,fu Pg 63 [.agg a.enc,.agg b.enc,.one (.int .i64 n)] (.agg C.enc)/\C.tags=l/\C.needs=[]/\4<=l.length)
 (h2:∀(a b:fZ) (n:Int) (l:List Int),cst a b n=some l->∀x,x∈l->0<=x/\x<=1000000000):ji (BJ q cst) zi0:=
⟨zGa,zwr,P7,zEO hq,told_sz hq,λt ns vs a b c=>⟨zwv t ns vs,ztJ t ns vs a b c⟩,h1,h2,P6⟩
end Go.Gr
namespace Go.Gr
open Go.Abs Go.Proofs
def Ci:MC:=(λx(_:x=gC tt [(0,12),(5,14),(1,24),(11,13)] [(3,[0,0,2,0,8,30,62,126,0,256,768,2047,4095,8191,16383])] [] (gB Tryz.f6))=>x) _ (by dsimp[Tryz.f6])
def Jn:MC:=(λx(_:x=gC tt [] [(6,[0,1,0,4,3,19,63,127])] [] (gB Tryz.f11))=>x) _ (by dsimp[Tryz.f11])
end Go.Gr
namespace Go.Gr
open Go.Proofs Go.RowKit
def Jo:Code->Code
|.seq a _=>a
|c=>c
def AR:Code->Code
|.seq _ b=>b
|c=>c
def cCt:Code->Code
|.cond _ a _=>a
|c=>c
noncomputable def Gl:Code:=Jo (Go.Abs.gB Tryz.f11)
noncomputable def P9:Code:=cCt (AR (AR (AR (Go.Abs.gB Tryz.f11))))
set_option maxRecDepth 100000 in
def zzW(p q:Addr)(w:World)(Q:World->Prop)
  (H:∀a:Act,a.defers=[]->a.tmps.size=27->a.tmps.getD 0 undef=.pointer (some q)->a.tmps.getD 1 undef=.pointer (some p)->Gl.wp Tryz.prog (λe a' w'=>e=.normal/\a'.defers=[]/\a'.tmps.size=27/\Q w') a w):
  CallsD Tryz.prog 11 #[.pointer (some q),.pointer (some p)] .returning w λe u' w'=>e=.returned (.tuple #[])/\u'=.returning/\Q w':=by
 refine callsD_of_wpS Tryz.func11 rfl λc₀ cs hu=>?_;have hnil:∀w:World,(binOp BinOp.neq 20 .nilIface .nilIface).run Tryz.prog w=.ok (.bool false) w:=λ_=>by kernel_rfl
 apply wpS_seq;refine wpS_of_wp (wp_mono (H _ rfl (by simp[Tryz.ntmps11]) (by simp[Tryz.ntmps11]) (by simp[Tryz.ntmps11])) ?_)
 rintro e a' w' ⟨rfl,h2,h3,h4⟩
 simp only[Exit.thenS];apply wpS_seq;apply wpS_region;have i2:2<a'.tmps.size:=by omega
 have i10:10<a'.tmps.size:=by omega
 have i11:11<a'.tmps.size:=by omega
 have i12:12<a'.tmps.size:=by omega
 simp[wpOpsS,go_sem,recoverD,hu,Exit.thenS,i2,i10,i11,i12];apply wpS_seq;apply wpS_region;simp[wpOpsS,go_sem,Exit.thenS,hnil,i2,i10,i11,i12];refine wpS_cond (t:=false) (by simp[Act.eval,i12]) ?_;simp only[au,if_false];refine wpS_of_wp (wp_skip ?_);cases c₀;simp_all[bodyPostS,results,Tryz.results11]
set_option maxRecDepth 100000 in
def ztH(p q:Addr)(how n:Int)(w:World)(Q Q2:World->Prop)
  (H:∀a:Act,a.defers=[]->a.tmps.size=27->a.tmps.getD 0 undef=.pointer (some q)->a.tmps.getD 1 undef=.pointer (some p)->Gl.wp Tryz.prog (λe a' w'=>e=.normal/\a'.defers=[]/\a'.tmps.size=27/\a'.tmps.getD 1 undef=.pointer (some p)/\Q w') a w)
  (H2:∀(a:Act) (w':World),Q w'->a.defers=[]->a.tmps.size=27->a.tmps.getD 1 undef=.pointer (some p)->a.tmps.getD 2 undef=.iface 55 (.agg #[.int .i64 how,.int .i64 n])->P9.wp Tryz.prog (λe a' w''=>e=.normal/\a'.defers=[]/\Q2 w'') a w'):
  CallsD Tryz.prog 11 #[.pointer (some q),.pointer (some p)] (.panicking [{v:=.iface 55 (.agg #[.int .i64 how,.int .i64 n]),recovered:=false}]) w λe u' w'=>e=.returned (.tuple #[])/\u'=.panicking [{v:=.iface 55 (.agg #[.int .i64 how,.int .i64 n]),recovered:=true}]/\Q2 w':=by
 refine callsD_of_wpS Tryz.func11 rfl λc₀ cs hu=>?_;have hne:∀w:World,(binOp BinOp.neq 20 (.iface 55 (.agg #[.int .i64 how,.int .i64 n])) .nilIface).run Tryz.prog w=.ok (.bool true) w:=λ_=>by rfl
 apply wpS_seq;refine wpS_of_wp (wp_mono (H _ rfl (by simp[Tryz.ntmps11]) (by simp[Tryz.ntmps11]) (by simp[Tryz.ntmps11])) ?_)
 rintro e a' w' ⟨rfl,h2,h3,h5,h4⟩
 simp only[Exit.thenS];apply wpS_seq;apply wpS_region;have i1:1<a'.tmps.size:=by omega
 have i2:2<a'.tmps.size:=by omega
 have i10:10<a'.tmps.size:=by omega
 have i11:11<a'.tmps.size:=by omega
 have i12:12<a'.tmps.size:=by omega
 simp[wpOpsS,go_sem,recoverD,hu,Exit.thenS,i2,i10,i11,i12];apply wpS_seq;apply wpS_region;simp[wpOpsS,go_sem,Exit.thenS,hne,i2,i10,i11,i12];refine wpS_cond (t:=true) (by simp[Act.eval,i12]) ?_;simp only[if_true];refine wpS_of_wp (wp_mono (H2 _ w' h4 ?_ ?_ ?_ ?_) ?_)
 ·simpa using h2
 ·simpa using h3
 ·simpa[i1]using h5
 ·simp[i2]
 ·rintro e a'' w'' ⟨rfl,h6,h7⟩
  cases c₀;simp_all[bodyPostS,results,Tryz.results11]
end Go.Gr
namespace Go.Gr
open Go.Abs Go.Proofs List
def EM:MC->MC
|.seq a _=>a
|c=>c
def yK:MC->MC
|.seq _ b=>b
|c=>c
def mCt:MC->MC
|.cond _ a _=>a
|c=>c
abbrev tB(x:AC)(e n:Int)(tx:di):Blk:=.box [x,.d (.int .i64 e),.d (.int .i64 n),.d (.str tx)]
abbrev zT:Blk:=tB (.d (.sl true 1 [])) 0 0 (bs [])
abbrev Cj(G:kK)(s:RS):Blk:=.box [.d (.sl false 13 (G.funs.map kJ.enc)),.d (.int .i64 G.main),.d (.sl false 3 (G.sites.map Site.enc)),.d (.sl false 1 (encI s.input)),.d (.int .i64 s.fuel),.d (.sl true 1 [])]
abbrev pB:Blk:=.box [.ptr 1 0]
noncomputable def Pb:MC:=EM Ci
noncomputable def Pd:MC:=EM (yK Ci)
noncomputable def xM:MC:=yK (yK (yK Ci))
noncomputable def Pe:Code:=Jo (gB Tryz.f6)
noncomputable def Pf:Code:=Jo (AR (gB Tryz.f6))
noncomputable def cdR:Code:=Jo (AR (AR (gB Tryz.f6)))
noncomputable def Jp:Code:=AR (AR (AR (gB Tryz.f6)))
theorem Ph:iH Pg 29 Pb Pe=true:=by kernel_rfl
theorem Pi:iH Pg 29 Pd Pf=true:=by kernel_rfl
theorem zHv:iH Pg 29 xM Jp=true:=by kernel_rfl
theorem zHw:gB Tryz.f6=.seq Pe (.seq Pf (.seq cdR Jp)):=rfl
noncomputable def Ck:MC:=EM Jn
noncomputable def Pj:MC:=mCt (yK (yK (yK Jn)))
theorem zHx:iH Pg 27 Ck Gl=true:=by kernel_rfl
theorem Pk:iH Pg 27 Pj P9=true:=by kernel_rfl
abbrev rsT:List MR:=[.cell 6 true 4]
theorem zHy:ku Pg rsT Tryz.f6.results.toList=true:=by kernel_rfl
def pO(input:List Int)(fuel:Int):RS:=⟨input,fuel,[],0⟩
def sM:O di->DV
|.ok tx s=>.agg [.sl false 1 (encS s.lines),.int .i64 0,.int .i64 0,.str tx]
|.over w z s=>.agg [.sl false 1 (encS s.lines),.int .i64 w,.int .i64 z,.str (bs [])]
|.bad=>.agg []
def BK(w z:Int):Prop:=0<=w/\w<=1000000000/\0<=z/\z<=1000000000
def pQ{α:Type}:O α->Prop
|.over w z _=>BK w z
|_=>True
def pQ.bind{α β:Type}{x:O α}{f:α->RS->O β}(h:pQ x)(k:∀a s,pQ (f a s)):pQ (x.bind f):=by
 cases x with
 |ok a s=>exact k a s
 |over w z s=>exact h
 |bad=>trivial
def pQ.stuck{α:Type}(s:RS):pQ (nZ s:O α):=(⟨by decide,by decide,by decide,by decide⟩:BK 5 0)
section
variable {X:jP} {P:List kJ} {ord:List di->List di}
def zCe(op:Int)(a b:Val)(s:RS):pQ (o5 X op a b s):=by
 unfold o5;repeat' split
 all_goals first|exact pQ.stuck s|(unfold pQ;first|trivial|(unfold BK;decide))
def zHz(a b:Val)(s:RS):pQ (yE X a b s):=by
 unfold yE;repeat' split
 all_goals (unfold pQ;first|trivial|(unfold BK;decide))
def zGA(a b:Val)(s:RS):pQ (qJ a b s):=by
 unfold qJ;repeat' split
 all_goals first|exact pQ.stuck s|(unfold pQ;first|trivial|(unfold BK;decide))
def zFq(c:fw)(sc:List Val)(s:RS):pQ (oh X P c sc s):=by
 unfold oh;repeat' split
 all_goals (unfold pQ;first|trivial|(unfold BK;decide))
def zGB(hc:∀(a b:fZ) (n:Int) (l:List Int),X.cst a b n=some l->∀x,x∈l->0<=x/\x<=1000000000)(c:fw)(v:Val)(s:RS):pQ (lC X c v s):=by
 unfold lC;split
 ·repeat' split
  all_goals first|exact pQ.stuck s|trivial
 split
 ·trivial
 split
 ·split
  ·trivial
  ·exact pQ.stuck s
 split
 ·exact zCe _ _ _ s
 split
 ·split
  ·trivial
  split
  ·trivial
  ·rename_i l e;split
   ·trivial
   ·rename_i hz;have hm:l.getD v.tag.toNat 0∈l:=by
     rw[aF]at hz⊢;cases e2:l[v.tag.toNat]? with
     |none=>rw[e2]at hz;exact absurd rfl hz
     |some y=>exact aW e2
    have:=hc _ _ _ l e _ hm;exact⟨by decide,by decide,this⟩
 split
 ·trivial
 ·trivial
def zzI(f:fw->RS->O Val)(h:∀c s,pQ (f c s)):∀(l:List fw) (s:RS),pQ (mX f l s)
|[],s=>by rw[mX];trivial
|c::l,s=>by
 rw[mX];exact(h c s).bind λv s=>(zzI f h l s).bind λvs s=>trivial
def zEl(hc:∀(a b:fZ) (n:Int) (l:List Int),X.cst a b n=some l->∀x,x∈l->0<=x/\x<=1000000000):∀(N:Nat) (c:fw) (sc:List Val) (s:RS),pQ (iG X P ord N c sc s)
|0,c,sc,s=>by rw[iG];trivial
| N +1,c,sc,s=>by
 have ih:=zEl hc N;have il:=zzI (λk s=>iG X P ord N k sc s) (λc s=>ih c sc s) c.kids s;rw[yG];split
 ·trivial
 split
 ·refine(ih _ _ _).bind λv s=>?_;split
  ·exact ih _ _ _
  ·exact pQ.stuck s
 split
 ·exact(ih _ _ _).bind λv s=>ih _ _ _
 split
 ·exact il.bind λvs s=>trivial
 ·refine il.bind λvs s=>?_;split
  ·exact zFq _ _ _
  ·exact zGB hc _ _ _
  ·unfold lw;split
   ·split
    ·exact(⟨by decide,by decide,by decide,by decide⟩:BK 3 0)
    ·split
     ·exact ih _ _ _
     ·exact pQ.stuck _
   split
   ·split
    ·trivial
    ·exact pQ.stuck _
   split
   ·exact zCe _ _ _ _
   split
   ·exact zHz _ _ _
   ·exact zGA _ _ _
end
section
variable {G:kK} {input:List Int} {fuel:Int}
def KA(G:kK)(input:List Int)(fuel:Int)(S:St):Prop:=
 Abs.look S.t 3=.c (.d (.rp G.enc 0))/\Abs.look S.t 6=.c (.ptr 0 0)/\Abs.look S.t 7=.c (.ptr 2 0)/\S.m=hpOf [zT,Cj G (pO input fuel),pB]/\S.n=3/\Abs.look S.t 13=.c (.d .any)
def KG(G:kK)(input:List Int)(fuel:Int)(p q t:Nat × Nat)(S:St):Prop:=
 Abs.look S.t 3=.c (.d (.rp G.enc 0))/\Abs.look S.t 6=.c (.ptr 0 0)/\Abs.look S.t 7=.c (.ptr 2 0)/\S.m=hpOf [zT,Cj G (pO input fuel),pB,.pin p 0,.pin q 2,.pin t 1]/\S.n=6
theorem zHA{c:Ctx}(hp:c.pure):AW Pg c Pb (λe S=>e=.normal/\AW Pg c Pd (λe S=>e=.normal/\KA G input fuel S) S) ⟨oQ 0 [.agg G.enc,.one (.sl false 1 (encI input)),.one (.int .i64 fuel)],λ_=>.non,0⟩:=by
 refine W.aw gD (Ad ?_);unfold Pb Ci EM;simp;refine W.aw gD (Ad ?_);unfold Pd Ci EM yK;have hc:cut G.enc 0 3=[.sl false 13 (G.funs.map kJ.enc),.int .i64 G.main,.sl false 3 (G.sites.map Site.enc)]:=rfl;have hl:G.enc.length=3:=rfl;simp[hc,hl,splice];refine⟨by simp,by simp,by simp,?_,rfl,by simp⟩;funext i
 match i with
 |0=>simp
 |1=>simp[pO,put]
 |2=>simp
 |i+3=>simp[hpOf]
def Cm(G:kK)(p q:Nat × Nat)(m:Hp)(tx:di)(s:RS):Prop:=∃k,5<k/\m 0=tB (.d (.sl true 1 [])) 0 0 tx/\m 1=ql G s k/\m 2=pB/\m 3=.pin p 0/\m 4=.pin q 2/\m k=lA s/\k<20/\∀i,20<=i->m i=.non
def QC(G:kK)(p q:Nat × Nat)(R:O di):Exit->St->Prop
|.ret,S=>∃tx s,R=.ok tx s/\Abs.look S.t 6=.c (.ptr 0 0)/\Abs.look S.t 7=.c (.ptr 2 0)/\Cm G p q S.m tx s
|.panic ch,S=>∃w z s,ch=[{v:=rJ w z,recovered:=false}]/\R=.over w z s/\BK w z/\Abs.look S.t 6=.c (.ptr 0 0)/\Abs.look S.t 7=.c (.ptr 2 0)/\Cm G p q S.m (bs []) s
|_,_=>False
def zGC{c:Ctx}{m:Hp}{n k:Nat}{tx:di}{s:RS}(h0:m 0=tB (.d (.sl true 1 [])) 0 0 tx)(h1:m 1=ql G s k)(h2:m 2=pB):AW Pg c Ck (λe S=>e=.normal/\Abs.look S.t 1=.c (.ptr 0 0)/\S.m=upd m 0 (tB (.msl 1 k 0 s.lines.length) 0 0 tx)) ⟨[(0,.c (.ptr 2 0)),(1,.c (.ptr 0 0))],m,n⟩:=by
 refine W.aw gD (Ad ?_);unfold Ck Jn EM;simp[h0,h1,h2]
def zHB{c:Ctx}{m:Hp}{k:Nat}{how z:Int}{l:Nat}(h0:m 0=tB (.msl 1 k 0 l) 0 0 (bs []))(hn:m 20=.non):AW Pg c Pj (λe S=>e=.normal/\S.m 0=tB (.msl 1 k 0 l) how z (bs [])/\∀j,j≠0->j≠20->S.m j=m j) ⟨[(1,.c (.ptr 0 0)),(2,.c (.d (.ifc 55 true [.int .i64 how,.int .i64 z])))],m,20⟩:=by
 refine W.aw gD (Ad ?_);unfold Pj Jn yK mCt;simp[h0,hn];refine⟨by rfl,?_⟩;intro j j0 jn;simp[upd,j0,jn]
def Pm:MC->List MO
|.seq (.owq (.regdx _ os)) _=>os
|_=>[]
def Cn:MC->List Nat
|.seq (.owq (.regdx bef _)) _=>bef
|_=>[]
def zGD:xM=.seq (.owq (.regdx (Cn xM) (Pm xM))) (yK xM):=by
 unfold xM Ci;try rfl
def u0(x y:Nat)(h:x<=300)(hy:1+y<=120006):0+0+x*(120006+1)+y<=40000000:=by omega
theorem zHC{X:jP}{ord:List di->List di}(hX:ji X ord)(hG:∀f,f∈G.funs->1+iQ f.body<=120006/\jK f.body)(N:Nat){f:kJ}(hm:0<=G.main)(hf:G.funs[G.main.toNat]?=some f)(hfu:fuel<=300)
  (hr:iG X G.funs ord N f.body [.null] (pO input fuel)≠.bad) (c:Ctx) (hp:c.pure) (p q t:Nat × Nat) (S:St) (hS:KG G input fuel p q t S):
  AW Pg c xM (QC G p q ((iG X G.funs ord N f.body [.null] (pO input fuel)).bind λv s=>.ok (X.told v) s)) S:=by
 obtain⟨k3,k6,k7,km,kn⟩:=hS;obtain⟨g1,g2⟩:=hG f (aW hf);have hu:used 120006 (pO input fuel)+iQ f.body<=40000000:=by
  exact u0 _ _ (show fuel.toNat<=300 by omega) g1
 have hE:=zzC (t:=t) hX hG N;have c0:=hE.own f.body [.null] (pO input fuel) (by simp;omega) g2 ⟨trivial,trivial⟩ hu hr;have sm:=AO (X:=X) hX.ords hG N f.body [.null] (pO input fuel) (by simp;omega) g2 ⟨trivial,trivial⟩;have ov:=zEl (P:=G.funs) (ord:=ord) hX.cstr N f.body [.null] (pO input fuel);obtain⟨r,hR⟩:∃r,iG X G.funs ord N f.body [.null] (pO input fuel)=r:=⟨_,rfl⟩
 rw[hR]at hr c0 sm ov⊢;obtain⟨st,m,n⟩:=S;simp only at k3 k6 k7 km kn;subst km kn;have e0:G.enc[0]?=some (.sl false 13 (G.funs.map kJ.enc)):=rfl;have e1:G.enc[1]?=some (.int .i64 G.main):=rfl;have eo:(D.ifc 71 true []).one=true:=rfl;rw[zGD];refine AW.seq (AW.owq [.c 1 5] ?_);simp only[o7];refine⟨rfl,AW.regdxK [6,7] (by kernel_rfl) gD ?_⟩;show Ed Pg (Cn xM) 0 (Pm xM) _ _ ⟨⟩ _ [];unfold xM Ci yK Cn Pm;simp[k3,k6,k7,hm,hf,e0,e1,eo,Dg];refine Cf [1,6,5,7] c0 hr (by simp[rM,Val.enc,pO,encS]) (λv s1 e=>⟨by simp,?_⟩) (λw z s1 e=>⟨by simp,?_⟩)
 ·subst e;obtain⟨u1,u2,u3⟩:=sm;have ht:s1.ticks<=40000000:=by unfold used at u1 hu;omega
  simp[k3,k6,k7];refine fU (hX.told t s1.ticks v ht u3) ?_;simp[k3,k6,k7];refine⟨by rfl,W.aw gD (Ad ?_)⟩;simp[k3,k6,k7];refine⟨X.told v,s1,rfl,by simp[k6],by simp[k7],8,by decide,by simp,by simp,by simp[hpOf],by simp[hpOf],by simp[hpOf],by simp,by decide,λi hi=>?_⟩;have h0:i≠0:=by omega
  have h1:i≠1:=by omega
  have h5:i≠5:=by omega
  have h6:i≠6:=by omega
  have h7:i≠7:=by omega
  have h8:i≠8:=by omega
  have hn:[zT,Cj G (pO input fuel),pB,Blk.pin p 0,Blk.pin q 2,Blk.pin t 1][i]?=none:=aM (by simp;omega);simp[upd,h0,h1,h5,h6,h7,h8,hpOf,aF,hn]
 ·subst e;have b1:Nat.testBit 4095 11=true:=rfl;have b2:Nat.testBit 8191 11=true:=rfl;have b3:Nat.testBit 16383 11=true:=rfl;simp[k3,k6,k7,b1,b2,b3];refine⟨by rfl,by rfl,?_⟩;refine⟨w,z,s1,rfl,rfl,ov,by simp[St.get,k6],by simp[St.get,k7],8,by decide,by simp[hpOf],by simp,by simp[hpOf],by simp[hpOf],by simp[hpOf],by simp,by decide,λi hi=>?_⟩;have h0:i≠0:=by omega
  have h1:i≠1:=by omega
  have h5:i≠5:=by omega
  have h6:i≠6:=by omega
  have h7:i≠7:=by omega
  have h8:i≠8:=by omega
  have hn:[zT,Cj G (pO input fuel),pB,Blk.pin p 0,Blk.pin q 2,Blk.pin t 1][i]?=none:=aM (by simp;omega);simp[upd,h0,h1,h5,h6,h7,h8,hpOf,aF,hn]
end
abbrev dG(a:Act):Deferred:={target:=.fn (.func 11) #[a.tmps.getD 7 undef,a.tmps.getD 6 undef],args:=#[]}
def wpR{a:Act}{w:World}{Q:Exit->Act->World->Prop}(hs:a.tmps.size=29)(h:∀a':Act,a'.tmps=a.tmps.setIfInBounds 13 (.func (.func 11) #[] #[a.tmps.getD 7 undef,a.tmps.getD 6 undef])->a'.defers=dG a::a.defers->Q .normal a' w):cdR.wp Pg Q a w:=by
 show(Code.region 2 _ false).wp Pg Q a w;refine wp_region ?_;simp[wpOps,go_sem];refine .inl (.inl ?_);simp[hs,go_sem];have e6:a.tmps[6]?=some (a.tmps[6]'(by omega)):=bH (by omega);have e7:a.tmps[7]?=some (a.tmps[7]'(by omega)):=bH (by omega);exact h _ (by simp[undef,e6,e7]) (by simp[undef,e6,e7])
end Go.Gr
namespace Go.Gr
open Go.Abs Go.Proofs
def BL{h:PH}{ρ:RM}{m:Hp}{w:Heap}{b j:Nat}{p:Nat × Nat}(H:HRel h ρ m w)(e:m j=.pin p b):ρ b=some p:=by
 have hd:∃t,ρ j=some t:=by
  cases hh:ρ j with
  |none=>have:=(H.dom j).2 hh;rw[e]at this;cases this
  |some t=>exact⟨t,rfl⟩
 obtain⟨t,ht⟩:=hd;have:=H.own j t ht;rw[e]at this;exact this.2
def zzi{c:Ctx}{D0:List Deferred}{St4:St}{a4:Act}{w4 w7:World}{ph4 h7:PH}{ρ4 ρ7:RM}{m7:Hp}{p:Nat × Nat}{k:Nat}{lines:List di}{e n:Int}{tx:di}
  (hρ:c.ρ=λ_=>none) (r4:kR Pg {c with D:=D0} St4.get St4.m a4 w4) (S04:ng c.h c.ρ c.m c.w.heap ph4 ρ4 St4.m w4.heap) (e04:Same c.w w4)
  (H7:HRel h7 ρ7 m7 w7.heap) (T7:ng ph4 ρ4 St4.m w4.heap h7 ρ7 m7 w7.heap) (sm:Same w4 w7) (y6:a4.tmps.getD 6 undef=.pointer (some ⟨p.1,0,none⟩)) (p0:ρ7 0=some p) (m0:m7 0=tB (.msl 1 k 0 lines.length) e n tx) (mk:m7 k=.arr 1 ((encS lines).map (·.map .d))) (k0:k≠0):
  ∃vC,(results Tryz.f6 a4.tmps).run Pg w7=.ok vC w7/\x8 c (.agg [.sl false 1 (encS lines),.int .i64 e,.int .i64 n,.str tx]) (.returned vC) w7:=by
 let S7:St:=⟨[(6,.c (.ptr 0 0))],m7,0⟩
 have rF:kR Pg {c with D:=D0} S7.get S7.m a4 w7:=by
  refine⟨r4.gnd,r4.sd,r4.defers,r4.size,h7,ρ7,H7,S04.transW T7,e04.trans sm,λj=>?_⟩;by_cases h0:j=6
  ·subst h0;show RepV h7 ρ7 (.c (.ptr 0 0)) _;rw[y6];simp only[RepV,RepC];exact⟨p,p0,rfl⟩
  ·have:S7.get j=.c (.d .any):=by
    simp[S7,St.get,h0]
   rw[this];simp[RepV,RepC,Abs.RepD]
 have rZ:=rF.fz (b:=k) (s:=1) (ds:=encS lines) mk;let SF:St:=⟨[(6,.c (.ptr 0 0))],vM m7 k 1 (encS lines),0⟩
 have eg:SF.get=λj=>(S7.get j).fz k 1 (encS lines):=by
  funext j;by_cases h0:j=6
  ·subst h0;rfl
  ·have e1:S7.get j=.c (.d .any):=by simp[S7,St.get,h0]
   have e2:SF.get j=.c (.d .any):=by simp[SF,St.get,h0]
   rw[e1,e2];try rfl
 have rG:kR Pg {c with D:=D0} SF.get SF.m a4 w7:=by
  rw[eg];exact rZ
 refine zgq (c:={c with D:=D0}) hρ rG zHy ?_;show zO rsT (.agg [.sl false 1 (encS lines),.int .i64 e,.int .i64 n,.str tx]) .ret SF;have k0':¬0=k:=λe=>k0 e.symm;simp[SF,m0,k0'];exact aH (by simp)
def zGg{G:kK}{input:List Int}{fuel:Int}{R:O di}(hC:∀(c:Ctx) (p q t:Nat × Nat) (S:St),KG G input fuel p q t S->AW Pg c xM (QC G p q R) S):
  fu Pg 6 [.agg G.enc,.one (.sl false 1 (encI input)),.one (.int .i64 fuel)] (sM R):=by
 refine fu.of_defers Tryz.func6 (code:=gB Tryz.f6) rfl (by decide) (by simp[Tryz.ntmps6]) λok c hN hD hρ hm a w r=>?_;rw[Tryz.ntmps6]at hN;rw[zHw];have hA:=zHA (c:=c) (G:=G) (input:=input) (fuel:=fuel) trivial Pe (by rw[hN];exact Ph) a w r;refine wp_seq (wp_mono hA λe a1 w1 ⟨S1,r1,he,hB⟩=>?_);subst he;refine wp_seq (wp_mono (hB Pf (by rw[hN];exact Pi) a1 w1 r1) λe a2 w2 ⟨S2,r2,he,k3,k6,k7,km,kn,k13⟩=>?_);subst he;have hs2:a2.tmps.size=29:=by rw[r2.size,hN]
 refine wp_seq (wpR hs2 λa3 t3 d3=>?_);obtain⟨ph,ρ,H,S0,e0,hg⟩:=r2.ex;have g6:=hg 6;have g7:=hg 7;have e6:S2.get 6=.c (.ptr 0 0):=k6;have e7:S2.get 7=.c (.ptr 2 0):=k7;rw[e6]at g6;rw[e7]at g7;simp only[RepV,RepC]at g6 g7;obtain⟨p,hp,v6⟩:=g6;obtain⟨q,hq,v7⟩:=g7;obtain⟨t,ht⟩:∃t,ρ 1=some t:=by
  cases hh:ρ 1 with
  |none=>have:=(H.dom 1).2 hh;rw[km]at this;cases this
  |some t=>exact⟨t,rfl⟩
 have m3:S2.m 3=.non:=by rw[km];try rfl
 have m4:S2.m 4=.non:=by rw[km];try rfl
 have m5:S2.m 5=.non:=by rw[km];try rfl
 obtain⟨H1,T1⟩:=H.pin hp m3;obtain⟨H2,T2⟩:=H1.pin (j:=4) (show upd ρ 3 (some p) 2=some q by rw[zah _ _ (by decide)];exact hq) (by rw[zah _ _ (by decide)];exact m4);obtain⟨H3,T3⟩:=H2.pin (j:=5) (show upd (upd ρ 3 (some p)) 4 (some q) 1=some t by rw[zah _ _ (by decide),zah _ _ (by decide)];exact ht) (by rw[zah _ _ (by decide),zah _ _ (by decide)];exact m5);have km':upd (upd (upd S2.m 3 (.pin p 0)) 4 (.pin q 2)) 5 (.pin t 1)=hpOf [zT,Cj G (pO input fuel),pB,.pin p 0,.pin q 2,.pin t 1]:=by
  rw[km];funext i
  match i with
  |0=>rfl
  |1=>rfl
  |2=>rfl
  |3=>rfl
  |4=>rfl
  |5=>rfl
  |i+6=>simp[upd,hpOf]
 have r3:kR Pg {c with D:=dG a2::c.D} S2.get (hpOf [zT,Cj G (pO input fuel),pB,.pin p 0,.pin q 2,.pin t 1]) a3 w2:=by
  rw[<-km'];refine⟨r2.gnd,r2.sd,by rw[d3,r2.defers],by rw[t3];simpa using r2.size,ph,_,H3,((S0.transW T1).transW T2).transW T3,e0,λk=>?_⟩;have hle:ρ.le (upd (upd (upd ρ 3 (some p)) 4 (some q)) 5 (some t)):=λb x hb=>by
   have h3:ρ 3=none:=(H.dom 3).1 m3;have h4:ρ 4=none:=(H.dom 4).1 m4;have h5:ρ 5=none:=(H.dom 5).1 m5;rw[zah _ _ (λe=>by subst e;rw[h5]at hb;cases hb),zah _ _ (λe=>by subst e;rw[h4]at hb;cases hb),zah _ _ (λe=>by subst e;rw[h3]at hb;cases hb)];exact hb
  rw[t3];by_cases hk:k=13
  ·subst hk;have:S2.get 13=.c (.d .any):=k13;rw[this];simp[RepV,RepC,Abs.RepD]
  ·have:(a2.tmps.setIfInBounds 13 (.func (.func 11) #[] #[a2.tmps.getD 7 undef,a2.tmps.getD 6 undef])).getD k undef=a2.tmps.getD k undef:=by
    simp only[aT];rw[bM (λe=>hk e.symm)]
   rw[this];exact RepV.mono (eZ _) hle _ _ (hg k)
 have hC':=hC {c with D:=dG a2::c.D} p q t ⟨S2.t,hpOf [zT,Cj G (pO input fuel),pB,.pin p 0,.pin q 2,.pin t 1],6⟩ ⟨k3,k6,k7,rfl,rfl⟩ Jp (by show iH Pg c.N xM Jp=true;rw[hN];exact zHv) a3 w2 r3;refine wp_mono hC' λe a4 w4 ⟨S4,r4,q4⟩=>?_;have hdf:a4.defers=[{target:=.fn (.func 11) #[.pointer (some ⟨q.1,0,none⟩),.pointer (some ⟨p.1,0,none⟩)],args:=#[]}]:=by
  rw[r4.defers];simp only[hD,dG,v6,v7]
 obtain⟨ph4,ρ4,H4,S04,e04,hg4⟩:=r4.ex;have fin6:Abs.look S4.t 6=.c (.ptr 0 0)->ρ4 0=some p->a4.tmps.getD 6 undef=.pointer (some ⟨p.1,0,none⟩):=λz6 p0=>by
  have x6:=hg4 6;have z6:S4.get 6=.c (.ptr 0 0):=z6;rw[z6]at x6;simp only[RepV,RepC]at x6;obtain⟨t,t1,t2⟩:=x6;rw[p0]at t1;cases t1;exact t2
 -- the lines are told, whatever the end
 have tell:∀(tx:di) (s:RS),Cm G p q S4.m tx s->∀a5:Act,a5.defers=[]->a5.tmps.size=27->a5.tmps.getD 0 undef=.pointer (some ⟨q.1,0,none⟩)->a5.tmps.getD 1 undef=.pointer (some ⟨p.1,0,none⟩)->
   Gl.wp Tryz.prog (λe a' w'=>e=.normal/\a'.defers=[]/\a'.tmps.size=27/\a'.tmps.getD 1 undef=.pointer (some ⟨p.1,0,none⟩)/\∃h6 ρ6 m6 k,HRel h6 ρ6 m6 w'.heap/\ng ph4 ρ4 S4.m w4.heap h6 ρ6 m6 w'.heap/\Same w4 w'/\5<k/\k<20/\m6 0=tB (.msl 1 k 0 s.lines.length) 0 0 tx/\m6 3=.pin p 0/\m6 k=.arr 1 ((encS s.lines).map (·.map .d))/\m6 20=.non) a5 w4:=by
  rintro tx s ⟨k,kk,b0,b1,b2,b3,b4,bk,kl,bn⟩ a5 d5 s5 t50 t51
  have pin0:=BL H4 b3;have pin2:=BL H4 b4;let c2:Ctx:=⟨ph4,ρ4,S4.m,w4,27,[]⟩
  have rr:kR Pg c2 (St.get ⟨[(0,.c (.ptr 2 0)),(1,.c (.ptr 0 0))],S4.m,20⟩) S4.m a5 w4:=by
   refine⟨r4.gnd.mono S04.hle,trivial,d5,s5,ph4,ρ4,H4,(Step.refl _ _ _ _).wk,fC _,λk=>?_⟩;by_cases h0:k=0
   ·subst h0;show RepV ph4 ρ4 (.c (.ptr 2 0)) _;rw[t50];simp only[RepV,RepC];exact⟨q,pin2,rfl⟩
   ·by_cases h1:k=1
    ·subst h1;show RepV ph4 ρ4 (.c (.ptr 0 0)) _;rw[t51];simp only[RepV,RepC];exact⟨p,pin0,rfl⟩
    ·have:St.get ⟨[(0,.c (.ptr 2 0)),(1,.c (.ptr 0 0))],S4.m,20⟩ k=.c (.d .any):=by
      simp[St.get,h0,h1]
     rw[this];simp[RepV,RepC,Abs.RepD]
  refine wp_mono (zGC (c:=c2) (n:=20) b0 b1 b2 Gl zHx a5 _ rr) λe a6 w6 ⟨S6,r6,he,h1',hm6⟩=>?_;obtain⟨h6,ρ6,H6,S6',q6,g6⟩:=r6.ex;have z1:S6.get 1=.c (.ptr 0 0):=h1';have x1:=g6 1;rw[z1]at x1;simp only[RepV,RepC]at x1;have b3':S6.m 3=.pin p 0:=by rw[hm6,zah _ _ (by decide)];exact b3
  have y1:a6.tmps.getD 1 undef=.pointer (some ⟨p.1,0,none⟩):=by
   obtain⟨t,t1,t2⟩:=x1;rw[BL H6 b3']at t1;cases t1;exact t2
  refine⟨he,r6.defers,r6.size,y1,h6,ρ6,S6.m,k,H6,S6',q6,kk,kl,by rw[hm6,zae],b3',?_,?_⟩
  ·rw[hm6,zah _ _ (by omega)];exact bk
  ·rw[hm6,zah _ _ (by decide)];exact bn 20 (by decide)
 cases e with
 | ret=>
  obtain⟨tx,s,hx,g6',g7',gf⟩:=q4;rw[hx];show Leaves Pg Tryz.f6 a4.tmps _ a4.defers .returning w4;rw[hdf];refine leaves_cons (f:=11) (args:=#[.pointer (some ⟨q.1,0,none⟩),.pointer (some ⟨p.1,0,none⟩)]) (by simp) (by simp[go_sem]) ?_;have y6:=fin6 g6' (by obtain⟨k,_,_,_,_,b3,_⟩:=gf;exact BL H4 b3);refine(zzW ⟨p.1,0,none⟩ ⟨q.1,0,none⟩ w4 (λw6=>∃vC,(results Tryz.f6 a4.tmps).run Pg w6=.ok vC w6/\x8 c (sM (.ok tx s)) (.returned vC) w6) λa5 d5 s5 t50 t51=>wp_mono (tell tx s gf a5 d5 s5 t50 t51) ?_).mono ?_
  ·rintro e a' w' ⟨h1,h2,h3,_,h6,ρ6,m6,k,H6,T6,sm,kk,kl,n0,n3,nk,_⟩
   exact⟨h1,h2,h3,zzi hρ r4 S04 e04 H6 T6 sm y6 (BL H6 n3) n0 nk (by omega)⟩
  ·rintro e u' w'' ⟨rfl,rfl,hQ⟩
   exact hQ
 | panic ch=>
  obtain⟨how,z,s,hch,hx,ov,g6',g7',gf⟩:=q4;rw[hx,hch];show Leaves Pg Tryz.f6 a4.tmps _ a4.defers (.panicking _) w4;rw[hdf];refine leaves_cons (f:=11) (args:=#[.pointer (some ⟨q.1,0,none⟩),.pointer (some ⟨p.1,0,none⟩)]) (by simp) (by simp[go_sem]) ?_;have y6:=fin6 g6' (by obtain⟨k,_,_,_,_,b3,_⟩:=gf;exact BL H4 b3);refine(ztH ⟨p.1,0,none⟩ ⟨q.1,0,none⟩ how z w4 _ (λw6=>∃vC,(results Tryz.f6 a4.tmps).run Pg w6=.ok vC w6/\x8 c (sM (.over how z s)) (.returned vC) w6) (λa5 d5 s5 t50 t51=>tell (bs []) s gf a5 d5 s5 t50 t51) ?_).mono ?_
  ·rintro a6 w6 ⟨h6,ρ6,m6,k,H6,T6,sm,kk,kl,n0,n3,nk,nn⟩ d6 s6 t61 t62
   let c3:Ctx:=⟨h6,ρ6,m6,w6,27,[]⟩
   have rr:kR Pg c3 (St.get ⟨[(1,.c (.ptr 0 0)),(2,.c (.d (.ifc 55 true [.int .i64 how,.int .i64 z])))],m6,20⟩) m6 a6 w6:=by
    refine⟨(r4.gnd.mono S04.hle).mono T6.hle,trivial,d6,s6,h6,ρ6,H6,(Step.refl _ _ _ _).wk,fC _,λj=>?_⟩;by_cases h1:j=1
    ·subst h1;show RepV h6 ρ6 (.c (.ptr 0 0)) _;rw[t61];simp only[RepV,RepC];exact⟨p,BL H6 n3,rfl⟩
    ·by_cases h2:j=2
     ·subst h2;show RepV h6 ρ6 (.c (.d (.ifc 55 true [.int .i64 how,.int .i64 z]))) _;rw[t62];obtain⟨o1,o2,o3,o4⟩:=ov;simp only[RepV,RepC,Abs.RepD];refine⟨[.int .i64 how,.int .i64 z],rfl,rfl,λe=>by simp at e,?_⟩;simp only[RepL,Abs.RepD,Kw,Ky];simp only[Value.one1,true_and,and_true];omega
     ·have:St.get ⟨[(1,.c (.ptr 0 0)),(2,.c (.d (.ifc 55 true [.int .i64 how,.int .i64 z])))],m6,20⟩ j=.c (.d .any):=by
       simp[St.get,h1,h2]
      rw[this];simp[RepV,RepC,Abs.RepD]
   refine wp_mono (zHB (c:=c3) n0 nn P9 Pk a6 _ rr) λe a7 w7 ⟨S7,r7,he,hm7,hj7⟩=>?_;obtain⟨h7,ρ7,H7,S7',q7,g7⟩:=r7.ex;refine⟨he,r7.defers,zzi hρ r4 S04 e04 H7 (T6.transW S7') (sm.trans q7) y6 (BL H7 (by rw[hj7 3 (by decide) (by decide)];exact n3)) hm7 (by rw[hj7 k (by omega) (by omega)];exact nk) (by omega)⟩
  ·rintro e u' w'' ⟨rfl,rfl,hQ⟩
   exact hQ
 |_=>exact q4.elim
mutual
def zzM{M G:Nat}:∀(m:Nat) (c:fw),jv M G c->vU m c->jK c
|m,.mk k n tx is ns ts cs ks,h,w=>by
 rw[jv]at h;rw[vU]at w;rw[jK];obtain⟨⟨h1,h2,h3⟩,h4⟩:=h;refine⟨⟨aj h3.1 (by decide),λe=>(w.2.2.2.1 e).1,?_,λe=>by have:=(w.2.2.1 e).2;omega⟩,λx hx=>aj (h3.2 x hx) (by decide),?_,?_,?_,?_,zx9 m k 0 ks h4 w.2.2.2.2.2⟩
 ·intro e;subst e;unfold mG at h1;simp at h1;exact h1.2.1
 ·intro e;subst e;unfold mG at h1;simpa using h1
 ·intro e;subst e;unfold mG at h1;simpa using h1
 ·intro e;subst e;unfold mG at h1;simpa using h1
 ·intro e;subst e;unfold mG at h1;simpa using h1
def zx9{M G:Nat}:∀(m:Nat) (k:Int) (i:Nat) (l:List fw),jN M G l->oK m k l i->BC l
|m,k,i,[],_,_=>trivial
|m,k,i,c::l,h,w=>by
 rw[oK]at w;exact⟨zzM _ c h.1 w.1,zx9 m k (i+1) l h.2 w.2⟩
end
def zB6{l:List (di × di)}(h:(ll l).2=true):∀f,f∈(ll l).1.funs->1+iQ f.body<=120006/\jK f.body:=λf hf=>by
 have k:=zyy h;have g:=(k.good.1 f hf).1;exact⟨by have:=g.2;omega,zzM 1 f.body (k.ok f hf) g.1⟩
def zB7(l:List di)(y:di)(h:y∈l):y∈zi0 l:=by
 unfold zi0;refine bI.2 ⟨y.data.toList,(List.mergeSort_perm _ _).mem_iff.2 (bI.2 ⟨y,h,rfl⟩),rfl⟩
def zB8{l:List (di × di)}(h:(ll l).2=true){X:jP}(hX:ji X zi0)(input:List Int)(fuel:Int)(hfu:fuel<=300){f:kJ}(hm:0<=(ll l).1.main)(hf:(ll l).1.funs[(ll l).1.main.toNat]?=some f)(N:Nat)
  (hr:iG X (ll l).1.funs zi0 N f.body [.null] (pO input fuel)≠.bad):
  fu Pg 6 [.agg (ll l).1.enc,.one (.sl false 1 (encI input)),.one (.int .i64 fuel)] (sM ((iG X (ll l).1.funs zi0 N f.body [.null] (pO input fuel)).bind λv s=>.ok (X.told v) s)):=
 zGg λc p q t S hS=>zHC hX (zB6 h) N hm hf hfu hr c trivial p q t S hS
def zAH{l:List (di × di)}(h:(ll l).2=true)(hs:(ll l).1.sites=[]){q:di->di}(hq:qL q)(input:List Int)(fuel:Int)(hfu:fuel<=300):
  ∃lines e n tx,e≠1/\e≠5/\fu Pg 6 [.agg (ll l).1.enc,.one (.sl false 1 (encI input)),.one (.int .i64 fuel)] (.agg [.sl false 1 (encS lines),.int .i64 e,.int .i64 n,.str tx]):=by
 have hX:=zwD hq (cst:=λ_ _ _=>none) (λa b n l e=>by cases e) (λa b n l e=>by cases e);obtain⟨hm,f,hf,he⟩:=zA5 h hs (BJ q λ_ _ _=>none) zi0 zB7;have hE:=he (pO input fuel) ((pO input fuel).fuel.toNat*120006+120005) (aK _);have hr:iG (BJ q λ_ _ _=>none) (ll l).1.funs zi0 ((pO input fuel).fuel.toNat*120006+120005) f.body [.null] (pO input fuel)≠.bad:=λz=>by rw[z]at hE;exact hE
 have hc:=zB8 h hX input fuel hfu hm hf _ hr;generalize iG (BJ q λ_ _ _=>none) (ll l).1.funs zi0 ((pO input fuel).fuel.toNat*120006+120005) f.body [.null] (pO input fuel)=r at*
 cases r with
 |ok v s=>exact⟨s.lines,0,0,_,by decide,by decide,hc⟩
 |over w z s=>exact⟨s.lines,w,z,bs [],hE.1,hE.2,hc⟩
 |bad=>exact absurd rfl hr
def zor:MC:=(λx(_:x=gC tt [] [] [] (gB Tryz.f3))=>x) _ (by dsimp[Tryz.f3])
def zuD:WT Pg 3 46 zor [.tmp 6]:=wT gD Tryz.func3 (by kernel_rfl)
def zrB:MC:=(λx(_:x=gC tt [] [] [] (gB Tryz.f4))=>x) _ (by dsimp[Tryz.f4])
def zyU:WT Pg 4 49 zrB [.tmp 0]:=wT gD Tryz.func4 (by kernel_rfl)
def zuE:MC:=(λx(_:x=gC tt [] [] [] (gB Tryz.f7))=>x) _ (by dsimp[Tryz.f7])
def zCf:WT Pg 7 17 zuE [.cell 2 true 4]:=wT gD Tryz.func7 (by kernel_rfl)
def zxK(haw:fu Pg 4 [] (.one (.bool true))){q:di->di}(hq:qL q)(l:List (di × di))(input:List Int)(fuel:Int):
  fu Pg 3 [.one (.sl false 2 (l.map kZ)),.one (.sl false 1 (encI input)),.one (.int .i64 fuel)] (.one (.bool true)):=by
 refine zuD (by simp) λo cx hN hp=>?_;have hpr:=Xu l;have hst:=λh1 h2 h3=>zAH (l:=l) h1 h2 hq input fuel h3;generalize ll l=r at*
 obtain⟨p,ok⟩:=r;simp only at hst;unfold zor;simp;refine fU haw ?_;simp;refine fU hpr ?_;have e2:∀h:2<p.enc.length,p.enc[2]=.sl false 3 (p.sites.map Site.enc):=λ_=>rfl;simp[e2];apply fM<;>intro g1
 ·have g1:ok=true:=by simpa using g1
  subst g1;apply fM<;>intro g2
  ·have g2:fuel<=300:=by simp at g2;omega
   apply fM<;>intro g3
   ·trivial
   ·have g3:p.sites=[]:=by
     cases hs:p.sites with
     |nil=>rfl
     |cons x y=>rw[hs]at g3;simp at g3
    obtain⟨lines,e,n,tx,n1,n5,hc⟩:=hst rfl g3 g2;refine fU hc ?_;simp[n1,n5]
  ·trivial
 ·trivial
def zGy{n:Nat}{ds:List D}(h:nO Tryz.prog n 39 ds):∃x:di × di,ds=kZ x:=by
 obtain⟨m,_,h⟩:=zgb Tryz.underlying39 h;obtain⟨a,b,rfl,ha,h⟩:=Rh h;obtain⟨c,d,rfl,hc,h⟩:=Rh h;obtain rfl:=zgJ h;obtain⟨s,rfl⟩:=Rf Tryz.underlying9 ha;obtain⟨i,rfl⟩:=Rf Tryz.underlying9 hc;exact⟨(s,i),rfl⟩
def zFm{n:Nat}{ds:List D}(h:nO Tryz.prog n 22 ds):∃l:List (di × di),ds=[.sl false 2 (l.map kZ)]:=
 Ri (enc:=kZ) Tryz.underlying22 (by kernel_rfl) (λm _ x hx=>zGy hx) h
def zFn{n:Nat}{ds:List D}(h:nO Tryz.prog n 23 ds):∃l:List Int,ds=[.sl false 1 (encI l)]:=
 Ri (enc:=λi:Int=>[.int .i64 i]) Tryz.underlying23 (by kernel_rfl) (λm _ x hx=>Re Tryz.underlying3 hx) h
def types:List TypeId:=[3,4,9,22,23,39]
theorem own:ownKnob Tryz.prog.godebug=none:=by kernel_rfl
theorem laidOut:laidOutB Tryz.prog=true:=by kernel_rfl
theorem typesOk:(types.all λt=>Bc Tryz.prog types t&&Tryz.prog.readableRec t&&decide (t<Tryz.prog.types.size))=true:=by kernel_rfl
theorem zHt:Abs.isAgg Tryz.prog 22=false:=by kernel_rfl
theorem zHu:Abs.isAgg Tryz.prog 23=false:=by kernel_rfl
theorem Pn:Abs.isAgg Tryz.prog 3=false:=by kernel_rfl
def argsR{dvs:List DV}(h:Bd Tryz.prog [22,23,3] dvs):∃(l:List (di × di)) (k:List Int) (f:Int),dvs=[.one (.sl false 2 (l.map kZ)),.one (.sl false 1 (encI k)),.one (.int .i64 f)]:=by
 match dvs,h with
 | a::r,h=>
  simp only[Bd,zHt,rU]at h;obtain⟨⟨n,x,h1,rfl⟩,h⟩:=h;obtain⟨l,rfl⟩:=zFm h1
  match r,h with
  | b::r,h=>
   simp only[Bd,zHu,rU]at h;obtain⟨⟨n,x,h1,rfl⟩,h⟩:=h;obtain⟨k,rfl⟩:=zFn h1
   match r,h with
   |c::r,h=>
    simp only[Bd,Pn,rU]at h;obtain⟨⟨n,x,h1,rfl⟩,rfl⟩:=h;obtain⟨f,rfl⟩:=Re Tryz.underlying3 h1;exact⟨l,k,f,rfl⟩
end Go.Gr
namespace Go.Abs
variable [jQ]
def qM{α β:Type _}(g:α->Option β):List α->Option (List β)
|[]=>some []
|x::xs=>match g x,qM g xs with
 |some y,some ys=>some (y::ys)
 |_,_=>none
def BM(m:Hp):Nat->AC->Option D
| 0,x=>(match x with
 |.d x=>some x
 |.msl s b off len=>(match m b with
  |.arr s' es=>if s=s'/\off+len<=es.length then(oo es).map λds=>.sl false s ((ds.drop off).take len)else none
  |_=>none)
 |_=>none)
| f+1,x=>(match x with
 |.d x=>some x
 |.msl s b off len=>(match m b with
  |.arr s' es=>if s=s'/\off+len<=es.length then(oo es).map λds=>.sl false s ((ds.drop off).take len)else none
  |_=>none)
 |.ptr b off=>(match m b with
  |.box cs=>(qM (BM m f) cs).map λds=>.rp ds off
  |_=>none)
 |_=>none)
def Po{m:Hp}{f:Nat}{g:AC->Option D}(hg:∀x d,g x=some d->jH m f x=some d):∀{cs:List AC} {ds:List D},qM g cs=some ds->qV m f cs=some ds
|[],ds,e=>by unfold qM at e;unfold qV;exact e
| c::cs,ds,e=>by
 unfold qM at e;split at e
 ·rename_i y ys h1 h2;unfold qV;rw[hg _ _ h1,Po hg h2];exact e
 ·cases e
def Pp{m:Hp}:∀{f:Nat} {x:AC} {d:D},BM m f x=some d->jH m f x=some d
|0,x,d,e=>by
 cases x<;>simp only[BM]at e<;>unfold jH<;>first|exact e|cases e
| f+1,x,d,e=>by
 cases x<;>simp only[BM]at e<;>unfold jH<;>first|exact e|(cases e;done)|skip
 rename_i b off;split at e
 ·rename_i cs hb;simp only[hb];simp only[aJ]at e⊢;obtain⟨ds,e1,e2⟩:=e;exact⟨ds,Po (λx d h=>Pp h) e1,e2⟩
 ·cases e
def yL(m:Hp):AV->Option DV
|.c x=>(BM m 4 x).map .one
|.ag cs=>(qM (BM m 4) cs).map .agg
|.tup vs=>none
def Pq(m:Hp):AV->Option DV
|.c x=>(BM m 4 x).map .one
|.ag cs=>(qM (BM m 4) cs).map .agg
|.tup vs=>(qM (yL m) vs).map .tup
def Ps{m:Hp}{x:AV}{d:DV}(e:yL m x=some d):frzV m x=some d:=by
 cases x with
 |c x=>
  simp only[yL,aJ]at e;obtain⟨y,e1,e2⟩:=e;simp only[frzV,Pp e1,Option.map_some,e2]
 |ag cs=>
  simp only[yL,aJ]at e;obtain⟨y,e1,e2⟩:=e;simp only[frzV,Po (λx d h=>Pp h) e1,Option.map_some,e2]
 |tup vs=>cases e
def zup{m:Hp}:∀{vs:List AV} {ds:List DV},qM (yL m) vs=some ds->uL m vs=some ds
|[],ds,e=>by unfold qM at e;simpa[uL]using e
| v::vs,ds,e=>by
 unfold qM at e;split at e
 ·rename_i y ys h1 h2;simp only[uL,Ps h1,zup h2];exact e
 ·cases e
def zGm{m:Hp}{x:AV}{d:DV}(e:Pq m x=some d):frzV m x=some d:=by
 cases x with
 |c x=>exact Ps (x:=.c x) e
 |ag cs=>exact Ps (x:=.ag cs) e
 |tup vs=>
  simp only[Pq,aJ]at e;obtain⟨y,e1,e2⟩:=e;simp only[frzV,zup e1,Option.map_some,e2]
def Pt (T:TE) (X:CE) (fuel d:Nat) (f:FuncId) (args:List DV):Option DV:=match T f with
|none=>none
| some (N,mc,rs)=>if args.length<=N then(match pV (Bg T X fuel d) 0 fuel mc ⟨oQ 0 args,[]⟩with
  |some (.ret,S)=>(match pu S rs with
   |some vs=>Pq (hpOf S.l) (one? vs)
   |none=>none)
  |_=>none)else none
def zFc{T:TE}{X:CE}{fuel d:Nat}{f:FuncId}{args:List DV}{v:DV}(h:Pt T X fuel d f args=some v):I1 T X fuel d f args=some v.er:=by
 unfold Pt at h;unfold I1;split at h
 ·cases h
 ·rename_i N mc rs hTf;simp only[hTf];split at h
  ·rename_i hal;simp only[hal,if_true];split at h
   ·rename_i S hex;simp only[hex];split at h
    ·rename_i vs h1;simp only[h1,zGm h,Option.map_some]
    ·cases h
   ·cases h
  ·cases h
end Go.Abs
namespace Go.Gr
open Go.Abs Go.Proofs
def Pv(ops:List Oper):List Nat:=ops.foldl (λr o=>r++[o.after.toList.foldl (λb e=>if Region.binds .any e then(b|||(1<<<e.on))|||r.getD e.on 0 else b) 0]) []
def uG:Code->List (Nat × List Nat)
|.region i ops d=>if d then [(i,Pv ops.toList)]else []
|.seq a b=>uG a++uG b
|.cond _ a b=>uG a++uG b
|.block _ b=>uG b
|.loop b=>uG b
|_=>[]
def mrO:ResultVar->MR
|.tmp t=>.tmp t
|.cell t ty=>.cell t (Db (tt ty)) (sO (tt ty))
def hN(f:Func):Nat × MC × List MR:=(f.ntmps,hC tt (uG (gB f)) (gB f),f.results.toList.map mrO)
def Gm:D->D
|.sl _ _ []=>.sc (.slice none 0 0)
|d=>d
def Pw:mP->mP
|.alloc z=>.alloc (z.map Gm)
|.build z ps=>.build (z.map Gm) ps
|o=>o
def Co:List MO->List MO
|[]=>[]
|⟨g,d,o⟩::l=>⟨g,d,Pw o⟩::Co l
def vI:MC->MC
|.reg os=>.reg (Co os)
|.regd b os=>.regd b (Co os)
|.seq a b=>.seq (vI a) (vI b)
|.cond x a b=>.cond x (vI a) (vI b)
|.block i b=>.block i (vI b)
|.loop b=>.loop (vI b)
|m=>m
def hZ(f:Func):Nat × MC × List MR:=(f.ntmps,vI (hC tt (uG (gB f)) (gB f)),f.results.toList.map mrO)
def Jq:List (Nat × Func)->Nat->Option Func
|[],_=>none
|(i,f)::l,n=>if i=n then some f else Jq l n
noncomputable def AU:Nat->Option (Nat × MC × List MR):=λf=>if f=178 then some (hZ Tryz.f178)else if f=96 then some (hN Tryz.f96)else if f=136 then some (hN Tryz.f136)else none
set_option maxRecDepth 100000 in
theorem zHJ:tF Pg Tryz.f178 (hZ Tryz.f178).1 (hZ Tryz.f178).2.1 (hZ Tryz.f178).2.2=true:=by kernel_rfl
theorem Px:tF Pg Tryz.f96 (hN Tryz.f96).1 (hN Tryz.f96).2.1 (hN Tryz.f96).2.2=true:=by kernel_rfl
theorem zHK:tF Pg Tryz.f136 (hN Tryz.f136).1 (hN Tryz.f136).2.1 (hN Tryz.f136).2.2=true:=by kernel_rfl
def zzK:∀f N mc rs,AU f=some (N,mc,rs)->∃fn,Pg.funcs[f]?=some fn/\tF Pg fn N mc rs=true:=λf N mc rs h=>by
 unfold AU at h;split at h
 ·rename_i e;subst e;have k:=zHJ;injection h with h;rw[h]at k;exact⟨_,Tryz.func178,k⟩
 ·split at h
  ·rename_i e;subst e;have k:=Px;injection h with h;rw[h]at k;exact⟨_,Tryz.func96,k⟩
  ·split at h
   ·rename_i e;subst e;have k:=zHK;injection h with h;rw[h]at k;exact⟨_,Tryz.func136,k⟩
   ·cases h
def Cq:CE:=λ_ _ _=>none
def zzL:∀f az bb v bb',Cq f az bb=some (v,bb')->MCall Pg f az bb v bb':=λf az bb v bb' h=>by cases h
def AX:List (List D):=[[.str (bs [92])],[.str (bs [92,92])],[.str (bs [34])],[.str (bs [92,34])],[.str (bs [10])],[.str (bs [92,110])],[.str (bs [9])],[.str (bs [92,116])]]
abbrev Gn:D:=.sc (.slice none 0 0)
def wm(b:Nat):List UInt8:=if b=9 then [92,116]else if b=10 then [92,110]else if b=34 then [92,34]else if b=92 then [92,92]else []
def wo(b:Nat):D:=if wm b=[]then Gn else .sl false 1 ((wm b).map λc=>[.int .u8 c.toNat])
def EN:List (List D):=[[.str (bs [9])],[.str (bs [10])],[.str (bs [34])],[.str (bs [92])]]
def RB:List D:=(List.range 256).map wo++[.sl false 1 EN]
abbrev yM(d m:Int)(r:D)(l:AC):Blk:=.box [.d (.int .u32 d),.d (.int .i32 m),.d (.int .u32 0),.d r,l]
abbrev yN:Blk:=.arr 1 (AX.map (·.map .d))
abbrev BN:D:=.ifc 335 false [.rp RB 0]
set_option maxRecDepth 100000 in
theorem Py:Bg AU Cq 2000 30 96 [.c (.d (.sl true 1 AX))] []=some (.c (.ptr 0 0),[yM 0 0 (.sc .nilIface) (.msl 1 1 0 8),yN]):=by kernel_rfl
set_option maxRecDepth 100000 in
theorem zHL:Bg AU Cq 2000 30 136 [.c (.ptr 0 0)] [yM 0 1 (.sc .nilIface) (.msl 1 1 0 8),yN]=some (.tup [],[yM 0 1 BN (.d (.sl true 1 [])),yN]):=by kernel_rfl
def zGM:MCall Pg 96 [.c (.d (.sl true 1 AX))] [] (.c (.ptr 0 0)) [yM 0 0 (.sc .nilIface) (.msl 1 1 0 8),yN]:=LW gD zzK zzL _ _ _ _ _ _ _ Py
def zFx:MCall Pg 136 [.c (.ptr 0 0)] [yM 0 1 (.sc .nilIface) (.msl 1 1 0 8),yN] (.tup []) [yM 0 1 BN (.d (.sl true 1 [])),yN]:=LW gD zzK zzL _ _ _ _ _ _ _ zHL
end Go.Gr
namespace Go.Gr
open Go.Proofs
def zvD(w:World):(callFunc 239 #[]).run Tryz.prog w=.ok (.value (.tuple #[])) w:=run_call_mark0 Tryz.func239 (by kernel_rfl) (by kernel_rfl) (by kernel_rfl) .disable (by kernel_rfl) w
def zwZ(w:World):(callFunc 241 #[]).run Tryz.prog w=.ok (.value (.tuple #[])) w:=run_call_mark0 Tryz.func241 (by kernel_rfl) (by kernel_rfl) (by kernel_rfl) .enable (by kernel_rfl) w
def zBs(a:Addr)(w:World):(callFunc 242 #[.pointer (some a)]).run Tryz.prog w=.ok (.value (.tuple #[])) w:=run_call_marked Tryz.func242 (by kernel_rfl) (by kernel_rfl) (by kernel_rfl) .acquire (by kernel_rfl) a w
def zu5(a:Addr)(w:World):(callFunc 244 #[.pointer (some a)]).run Tryz.prog w=.ok (.value (.tuple #[])) w:=run_call_marked Tryz.func244 (by kernel_rfl) (by kernel_rfl) (by kernel_rfl) .releaseMerge (by kernel_rfl) a w
set_option maxRecDepth 100000 in
set_option maxHeartbeats 1600000 in
def zER(a:Addr)(x:Value)(u:FrameMode)(w:World)(hc:w.cell? a=some x)(hz:w.frozen? a=false):
  CallsD Tryz.prog 206 #[.pointer (some a),.bool true] u w λe u' w'=>u'=u/\(e=.returned (.tuple #[])/\w'=w.drew.setCell a (.int .u32 1)):=by
 have hc':w.drew.cell? a=some x:=by go_simp
 have hz':w.drew.frozen? a=false:=by go_simp
 have hst:=run_call_store (P:=Tryz.prog) Tryz.func225 (by kernel_rfl) (by kernel_rfl) (by kernel_rfl) (by kernel_rfl) (k:=.u32) (y:=1) hc' hz'
 go_enter_d Tryz.func206,Tryz.ntmps206
 go_wp2
 go_region_calls
 all_goals (go_end0;exact⟨rfl,rfl⟩)
set_option maxRecDepth 100000 in
set_option maxHeartbeats 1600000 in
def zC2(a:Addr)(u:FrameMode)(w:World)(hc:w.cell? a=some (.int .i32 1))(hz:w.frozen? a=false):
  CallsD Tryz.prog 205 #[.pointer (some a)] u w λe u' w'=>u'=u/\(e=.returned (.tuple #[])/\w'=w.setCell a (.int .i32 0)):=by
 have hd:=zvD;have he:=zwZ;have hr:=zu5;have hadd:=run_call_add (P:=Tryz.prog) Tryz.func245 (by kernel_rfl) (by kernel_rfl) (by kernel_rfl) .i32 (by kernel_rfl) (y:= -1) (s:=0) hc hz (by simp[go_sem];rfl);have hcv:=run_convert_to_unsafe (P:=Tryz.prog) (src:=370) (dst:=274) Tryz.underlying370 Tryz.underlying274 (by kernel_rfl) hc
 go_enter_d Tryz.func205,Tryz.ntmps205
 go_wp2
 go_end0
 go_wp2
 go_end0
 exact⟨rfl,rfl⟩
set_option maxRecDepth 100000 in
set_option maxHeartbeats 1600000 in
def zF9(a:Addr)(w:World)(hc:w.cell? a=some (.int .i32 0))(hz:w.frozen? a=false):
  Calls Tryz.prog 204 #[.pointer (some a)] w λe w'=>e=.returned (.tuple #[])/\w'=w.setCell a (.int .i32 1):=by
 have hd:=zvD;have he:=zwZ;have ha:=zBs;have hcas:=run_call_cas_hit (P:=Tryz.prog) Tryz.func240 (by kernel_rfl) (by kernel_rfl) (by kernel_rfl) .i32 (by kernel_rfl) (y:=1) hc hz;have hc':(w.setCell a (.int .i32 1)).cell? a=some (.int .i32 1):=World.cell?_setCell_same w a _ hc;have hcv:=run_convert_to_unsafe (P:=Tryz.prog) (src:=370) (dst:=274) Tryz.underlying370 Tryz.underlying274 (by kernel_rfl) hc'
 go_enter Tryz.func204,Tryz.ntmps204
 go_wp2
 first|go_end0|(simp only[Exit.inBlock,Exit.then];refine bodyPost_ret (results_none rfl _ _ _) rfl ?_)|refine bodyPost_ret (results_none rfl _ _ _) rfl ?_
 go_wp2
 go_end0
 exact⟨rfl,rfl⟩
set_option maxRecDepth 100000 in
set_option maxHeartbeats 1600000 in
def zCA(a:Addr)(w:World)(h:w.cell? a=some (.int .u32 0)):Calls Tryz.prog 176 #[.pointer (some a)] w λe w'=>e=.returned (.bool false)/\w'=w:=by
 have hl:=run_call_load (P:=Tryz.prog) Tryz.func203 (by kernel_rfl) (by kernel_rfl) (by kernel_rfl) .u32 (by kernel_rfl) (w:=w) (a:=a) (x:=0) h
 go_enter Tryz.func176,Tryz.ntmps176
 go_wp2
 go_ret
 exact⟨rfl,rfl⟩
set_option maxRecDepth 100000 in
set_option maxHeartbeats 1600000 in
def zGT(B:Nat)(w:World)(R:World->Prop)(h0:w.cell? ⟨B,0,none⟩=some (.int .u32 0))(h1:w.cell? ⟨B,1,none⟩=some (.int .i32 0))(f0:w.frozen? ⟨B,0,none⟩=false)(f1:w.frozen? ⟨B,1,none⟩=false)
  (H:Calls Tryz.prog 136 #[.pointer (some ⟨B,0,none⟩)] (w.setCell ⟨B,1,none⟩ (.int .i32 1)) λe w1=>e=.returned (.tuple #[])/\R w1)
  (HR:∀w1,R w1->(∃x,w1.cell? ⟨B,0,none⟩=some x)/\w1.cell? ⟨B,1,none⟩=some (.int .i32 1)/\w1.frozen? ⟨B,0,none⟩=false/\w1.frozen? ⟨B,1,none⟩=false):
  Calls Tryz.prog 177 #[.pointer (some ⟨B,0,none⟩),.func (.func 136) #[.pointer (some ⟨B,0,none⟩)] #[]] w λe w'=>e=.returned (.tuple #[])/\∃w1,R w1/\w'=(w1.drew.setCell ⟨B,0,none⟩ (.int .u32 1)).setCell ⟨B,1,none⟩ (.int .i32 0):=by
 have hl:=zCA ⟨B,0,none⟩ (w.setCell ⟨B,1,none⟩ (.int .i32 1)) ((World.cell?_setCell_other _ ⟨B,1,none⟩ ⟨B,0,none⟩ _ (by simp)).trans h0);have hnot:∀(x:Bool) (w:World),(Op.unary .not (.bool x)).run Tryz.prog w=.ok (.bool (!x)) w:=λ_ _=>rfl
 go_enter_defers Tryz.func177,Tryz.ntmps177
 go_wp2_with (go_at_call 204;refine(zF9 ⟨B,1,none⟩ _ (by go_simp) (by go_simp)).mono ?_;rintro e w' ⟨rfl,rfl⟩)
 go_wp2_with (go_at_call 176;refine hl.mono ?_;rintro e w' ⟨rfl,rfl⟩)
 go_wp2_with (go_at_call 136;refine H.mono ?_;rintro e w1 ⟨rfl,hR⟩)
 obtain⟨⟨x,c0⟩,c1,g0,g1⟩:=HR w1 hR;show Leaves Tryz.prog Tryz.f177 _ _ _ .returning w1;refine leaves_cons (f:=206) (args:=#[.pointer (some ⟨B,0,none⟩),.bool true]) (by simp) (by simp[go_sem]) ?_;refine(zER ⟨B,0,none⟩ x .returning _ c0 g0).mono ?_
 rintro e u' w'' ⟨rfl,rfl,rfl⟩
 refine leaves_cons (f:=205) (args:=#[.pointer (some ⟨B,1,none⟩)]) (by simp[settle]) (by simp[go_sem]) ?_;refine(zC2 ⟨B,1,none⟩ _ _ ?_ (by simp[g1])).mono ?_
 ·refine(World.cell?_setCell_other _ ⟨B,0,none⟩ ⟨B,1,none⟩ _ (by simp)).trans ?_;rw[World.cell?_drew];exact c1
 rintro e u' w'' ⟨rfl,rfl,rfl⟩
 simp[Leaves,settle,results,Tryz.results177];exact⟨w1,hR,rfl⟩
abbrev Jr(B:Nat)(w1:World):World:=(w1.drew.setCell ⟨B,0,none⟩ (.int .u32 1)).setCell ⟨B,1,none⟩ (.int .i32 0)
set_option maxRecDepth 100000 in
set_option maxHeartbeats 1600000 in
def Pz(B:Nat)(w:World)(R:World->Prop)(h0:w.cell? ⟨B,0,none⟩=some (.int .u32 0))(h1:w.cell? ⟨B,1,none⟩=some (.int .i32 0))(f0:w.frozen? ⟨B,0,none⟩=false)(f1:w.frozen? ⟨B,1,none⟩=false)
  (H:Calls Tryz.prog 136 #[.pointer (some ⟨B,0,none⟩)] (w.setCell ⟨B,1,none⟩ (.int .i32 1)) λe w1=>e=.returned (.tuple #[])/\R w1)
  (HR:∀w1,R w1->(∃x,w1.cell? ⟨B,0,none⟩=some x)/\w1.cell? ⟨B,1,none⟩=some (.int .i32 1)/\w1.frozen? ⟨B,0,none⟩=false/\w1.frozen? ⟨B,1,none⟩=false):
  Calls Tryz.prog 135 #[.pointer (some ⟨B,0,none⟩),.func (.func 136) #[.pointer (some ⟨B,0,none⟩)] #[]] w λe w'=>e=.returned (.tuple #[])/\∃w1,R w1/\w'=Jr B w1:=by
 have hl:=zCA ⟨B,0,none⟩ w h0;have hs:=zGT B w R h0 h1 f0 f1 H HR;have hnot:∀(x:Bool) (w:World),(Op.unary .not (.bool x)).run Tryz.prog w=.ok (.bool (!x)) w:=λ_ _=>rfl
 go_enter Tryz.func135,Tryz.ntmps135
 go_wp2_with (go_at_call 176;refine hl.mono ?_;rintro e w' ⟨rfl,rfl⟩)
 go_wp2_with (go_at_call 177;refine hs.mono ?_;rintro e w' ⟨rfl,w1,hR,rfl⟩)
 go_end0
 exact⟨rfl,w1,hR,rfl⟩
set_option maxRecDepth 100000 in
set_option maxHeartbeats 1600000 in
def zGj(B:Nat)(w:World)(s:di)(R:World->Prop)(Q:di->World->Prop)(h0:w.cell? ⟨B,0,none⟩=some (.int .u32 0))(h1:w.cell? ⟨B,1,none⟩=some (.int .i32 0))(f0:w.frozen? ⟨B,0,none⟩=false)(f1:w.frozen? ⟨B,1,none⟩=false)
  (H:Calls Tryz.prog 136 #[.pointer (some ⟨B,0,none⟩)] (w.setCell ⟨B,1,none⟩ (.int .i32 1)) λe w1=>e=.returned (.tuple #[])/\R w1)
  (HR:∀w1,R w1->(∃x,w1.cell? ⟨B,0,none⟩=some x)/\w1.cell? ⟨B,1,none⟩=some (.int .i32 1)/\w1.frozen? ⟨B,0,none⟩=false/\w1.frozen? ⟨B,1,none⟩=false)
  (HI:∀w1,R w1->∃u,w1.cell? ⟨B,3,none⟩=some (.iface 335 u)/\Calls Tryz.prog 316 #[u,.string s] (Jr B w1) λe w'=>∃tx,e=.returned (.string tx)/\Q tx w'):
  Calls Tryz.prog 97 #[.pointer (some ⟨B,0,none⟩),.string s] w λe w'=>∃tx,e=.returned (.string tx)/\Q tx w':=by
 have hs:=Pz B w R h0 h1 f0 f1 H HR;have hm : ∀ (u : Value) (w : World), (method 543 335 u "Replace").run Tryz.prog w = .ok (316, u) w :=λu w => by kernel_rfl
 go_enter Tryz.func97,Tryz.ntmps97
 go_wp2_with (go_at_call 135;refine hs.mono ?_;rintro e w' ⟨rfl,w1,hR,rfl⟩;obtain⟨u,hu,hc⟩:=HI w1 hR)
 go_wp2_with (go_at_call 316;refine hc.mono ?_;rintro e w' ⟨tx,rfl,hQ⟩)
 go_ret
 exact⟨tx,rfl,hQ⟩
end Go.Gr
namespace Go.Gr
open Go.Abs Go.Proofs List
def zv9{h:PH}{ρ:RM}{c:AC}{v:Value}(hv:v.one1=true)(r:RepC h ρ c v):∀{cs:List AC} {vs:List Value} (o:Nat),gK h ρ cs vs->gK h ρ (cs.set o c) (vs.set o v)
|[],_,_,_=>by simp[gK]
|_::_,[],_,k=>by simp[gK]at k
|x::cs,u::vs,0,k=>by
 simp only[gK,set_cons_zero]at k⊢;exact⟨⟨hv,r⟩,k.2⟩
|x::cs,u::vs,o+1,k=>by
 simp only[gK,set_cons_succ]at k⊢;exact⟨k.1,zv9 hv r o k.2⟩
def QA{h:PH}{ρ:RM}{m:Hp}{w:World}(H:HRel h ρ m w.heap){b:Nat}{p:Nat × Nat}(e:ρ b=some p){cs:List AC}(em:m b=.box cs)(o:Nat){c:AC}{v:Value}(hv:v.one1=true)(r:RepC h ρ c v):
  HRel h ρ (upd m b (.box (cs.set o c))) (w.setCell ⟨p.1,o,none⟩ v).heap/\Step h ρ m w.heap h ρ (upd m b (.box (cs.set o c))) (w.setCell ⟨p.1,o,none⟩ v).heap/\Same w (w.setCell ⟨p.1,o,none⟩ v):=by
 have how:=H.own b p e;rw[em]at how;obtain⟨vs,T,g1,g2,g3⟩:=how;have hreal:Real (m b) p:=by rw[em];trivial
 obtain⟨K,S⟩:=H.set (.cells (vs.set o v).toArray T (0,0)) e hreal (blk:=.box (cs.set o c)) (by simp) ⟨vs.set o v,T,Cw _ _ (H.real_lt e hreal),by simpa using g2,zv9 hv r o g3⟩;rw[setCell_eq g1];exact⟨K,S,⟨rfl,rfl,rfl⟩⟩
def Gp{h:PH}{ρ:RM}{m:Hp}{w:World}(H:HRel h ρ m w.heap){b:Nat}{p:Nat × Nat}(e:ρ b=some p){cs:List AC}(em:m b=.box cs){o:Nat}{c:AC}(hc:cs[o]?=some c):∃v,w.cell? ⟨p.1,o,none⟩=some v/\RepC h ρ c v:=by
 have how:=H.own b p e;rw[em]at how;obtain⟨vs,T,g1,g2,g3⟩:=how;rw[cell_of g1];have key:∀(cs:List AC) (vs:List Value) (o:Nat),gK h ρ cs vs->cs[o]?=some c->∃v,vs[o]?=some v/\RepC h ρ c v:=by
  intro cs
  induction cs with
  |nil=>intro vs o _ h;simp at h
  | cons x cs ih=>
   intro vs o r h;cases vs with
   |nil=>simp[gK]at r
   | cons u vs=>
    simp only[gK]at r;cases o with
    |zero=>
     simp at h;subst h;exact⟨u,rfl,r.1.2⟩
    |succ o=>exact ih vs o r.2 (by simpa using h)
 obtain⟨v,h1,h2⟩:=key cs vs o g3 hc;exact⟨v,by simpa using h1,h2⟩
def Js{h:PH}{ρ:RM}{m:Hp}{w:World}(H:HRel h ρ m w.heap){b:Nat}{p:Nat × Nat}(e:ρ b=some p){cs:List AC}(em:m b=.box cs)(o:Nat):w.frozen? ⟨p.1,o,none⟩=false:=by
 have how:=H.own b p e;rw[em]at how;obtain⟨vs,T,g1,g2,g3⟩:=how;exact QS g1
abbrev Jt:List Blk:=[yM 0 0 (.sc .nilIface) (.msl 1 1 0 8),yN]
abbrev bsB:List Blk:=[yM 0 1 (.sc .nilIface) (.msl 1 1 0 8),yN]
abbrev Gq:List Blk:=[yM 0 1 BN (.d (.sl true 1 [])),yN]
abbrev QB:List Blk:=[yM 1 1 BN (.d (.sl true 1 [])),yN]
abbrev EO:List Blk:=[yM 1 0 BN (.d (.sl true 1 [])),yN]
def QD(a b:Blk)(l:List Blk):upd (hpOf (a::l)) 0 b=hpOf (b::l):=by
 funext i;cases i with
 |zero=>rfl
 |succ i=>rw[zah _ _ (by omega)];try rfl
def zFy{s t:di}(hr:fu Pg 316 [.one (.rp RB 0),.one (.str s)] (.one (.str t))):MCall Pg 97 [.c (.ptr 0 0),.c (.d (.str s))] Jt (.c (.d (.str t))) EO:=by
 refine⟨by decide+kernel,aK _,?_,rfl,?_,λh ρ w argsC H hG hS r=>?_⟩
 ·intro i hi
  match i with
  |0=>simp
  |1=>simp
  |i+2=>exact absurd hi (by simp)
 ·intro b hb;simp only[aS,dV,or_false]at hb;rcases hb with rfl|rfl<;>rfl
 match argsC,r with
 | [v0,v1],r=>
  simp only[zad,RepV,RepC,Abs.RepD,and_true]at r;obtain⟨⟨p,e0,rfl⟩,rfl,hs⟩:=r;obtain⟨v,c0,x0⟩:=Gp H e0 (cs:=_) rfl (o:=0) rfl;simp only[RepC,Abs.RepD]at x0;obtain⟨rfl, -⟩:=x0;obtain⟨v,c1,x1⟩:=Gp H e0 (cs:=_) rfl (o:=1) rfl;simp only[RepC,Abs.RepD]at x1;obtain⟨rfl, -⟩:=x1;obtain⟨HB,SB,mB⟩:=QA H e0 rfl 1 (c:=.d (.int .i32 1)) (v:=.int .i32 1) rfl (by simp[RepC,Abs.RepD];decide);have eB:upd (hpOf Jt) 0 (.box (set [.d (.int .u32 0),.d (.int .i32 0),.d (.int .u32 0),.d (.sc .nilIface),.msl 1 1 0 8] 1 (.d (.int .i32 1))))=hpOf bsB:=QD _ _ _;rw[eB]at HB SB;have hGB:=hG.mono SB.hle;have hO:=zFx.2.2.2.2.2 h ρ (w.setCell ⟨p.1,1,none⟩ (.int .i32 1)) [.pointer (some ⟨p.1,0,none⟩)] HB hGB trivial (by simp only[zad,RepV,RepC,and_true];exact⟨p,e0,rfl⟩)
  refine(zGj p.1 w s (λw1=>∃h' ρ',ng h ρ (hpOf bsB) (w.setCell ⟨p.1,1,none⟩ (.int .i32 1)).heap h' ρ' (hpOf Gq) w1.heap/\HRel h' ρ' (hpOf Gq) w1.heap/\Same (w.setCell ⟨p.1,1,none⟩ (.int .i32 1)) w1/\∀i,i<2->ρ' i=ρ i)
   (λtx w'=>tx=t/\∃h' ρ',ng h ρ (hpOf Jt) w.heap h' ρ' (hpOf EO) w'.heap/\HRel h' ρ' (hpOf EO) w'.heap/\Same w w'/\t.size<=zao/\∀i,i<2->ρ' i=ρ i) c0 c1 (Js H e0 rfl 0) (Js H e0 rfl 1) ?_ ?_ ?_).mono ?_
  ·refine hO.mono ?_
   rintro e w1 ⟨vC,h',ρ',rfl,S1,H1,m1,rv,hi⟩
   simp only[RepV]at rv;refine⟨?_,h',ρ',S1,H1,m1,hi⟩;obtain⟨us,rfl,ru⟩:=rv;simp only[zad]at ru;subst ru;rfl
  ·rintro w1 ⟨h',ρ',S1,H1,m1,hi⟩
   have e1:ρ' 0=some p:=(hi 0 (by decide)).trans e0;obtain⟨v,k0,_⟩:=Gp H1 e1 (cs:=_) rfl (o:=0) rfl;obtain⟨v',k1,y1⟩:=Gp H1 e1 (cs:=_) rfl (o:=1) rfl;simp only[RepC,Abs.RepD]at y1;obtain⟨rfl, -⟩:=y1;exact⟨⟨v,k0⟩,k1,Js H1 e1 rfl 0,Js H1 e1 rfl 1⟩
  ·rintro w1 ⟨h',ρ',S1,H1,m1,hi⟩
   have e1:ρ' 0=some p:=(hi 0 (by decide)).trans e0;obtain⟨v,k3,y3⟩:=Gp H1 e1 (cs:=_) rfl (o:=3) rfl;simp only[RepC]at y3;unfold Abs.RepD at y3;obtain⟨vs,rfl,l1, -,y3⟩:=y3
   match vs,l1,y3 with
   |[u],_,y3=>
   refine⟨u,k3,?_⟩;have H1':HRel h' ρ' (hpOf Gq) w1.drew.heap:=H1;obtain⟨HD,SD,mD⟩:=QA (w:=w1.drew) H1' e1 rfl 0 (c:=.d (.int .u32 1)) (v:=.int .u32 1) rfl (by simp[RepC,Abs.RepD];decide);have eD:upd (hpOf Gq) 0 (.box (set [.d (.int .u32 0),.d (.int .i32 1),.d (.int .u32 0),.d BN,.d (.sl true 1 [])] 0 (.d (.int .u32 1))))=hpOf QB:=QD _ _ _;rw[eD]at HD SD;obtain⟨HE,SE,mE⟩:=QA HD e1 rfl 1 (c:=.d (.int .i32 0)) (v:=.int .i32 0) rfl (by simp[RepC,Abs.RepD];decide);have eE:upd (hpOf QB) 0 (.box (set [.d (.int .u32 1),.d (.int .i32 1),.d (.int .u32 0),.d BN,.d (.sl true 1 [])] 1 (.d (.int .i32 0))))=hpOf EO:=QD _ _ _;rw[eE]at HE SE;have M:=fu.m (args:=[.c (.d (.rp RB 0)),.c (.d (.str s))]) (bs:=EO) hr rfl rfl rfl;have S4:ng h ρ (hpOf Jt) w.heap h' ρ' (hpOf EO) (Jr p.1 w1).heap:=((SB.wk.transW S1).transW (show ng h' ρ' (hpOf Gq) w1.heap h' ρ' (hpOf QB) _ from SD.wk)).transW SE.wk;have C:=M.2.2.2.2.2 h' ρ' (Jr p.1 w1) [u,.string s] HE (hG.mono S4.hle) trivial (by
    simp only[zad,RepV,RepC,and_true];refine⟨?_,?_⟩
    ·simp only[RepL,and_true]at y3;exact y3.2
    ·simp only[Abs.RepD]
     exact⟨trivial,hs⟩)
   refine C.mono ?_
   rintro e w' ⟨vC,h2,ρ2,rfl,S2,H2,m2,rv,hi2⟩
   simp only[RepV,RepC,Abs.RepD]at rv;obtain⟨rfl,ht⟩:=rv;refine⟨t,rfl,rfl,h2,ρ2,S4.transW S2,H2,?_,ht,λi h=>(hi2 i h).trans (hi i h)⟩;exact((mB.trans m1).trans (show Same w1 w1.drew from⟨rfl,rfl,rfl⟩)).trans ((mD.trans mE).trans m2)
  ·rintro e w' ⟨tx,rfl,rfl,h',ρ',S,H',m',ht,hi⟩
   refine⟨_,h',ρ',rfl,S,H',m',?_,hi⟩;simp only[RepV,RepC,Abs.RepD];exact⟨trivial,ht⟩
end Go.Gr
namespace Go.Gr
open Go.Abs Go.Proofs
def zq3:MC:=(λx(_:x=gC tt [(3,4),(3,6)] [] [] (gB Tryz.f49))=>x) _ (by dsimp[Tryz.f49])
def zyF:WT Pg 49 9 zq3 [.tmp 2]:=wT gD Tryz.func49 (by kernel_rfl)
theorem zD1{s t:di}(hr:fu Pg 316 [.one (.rp RB 0),.one (.str s)] (.one (.str t)))(ht:t.size<=1000):fu Pg 49 [.one (.str s)] (.one (.str (bs [34]++t++bs [34]))):=by
 refine zyF (by simp) λo c hN hp=>?_;have h1:=zGM;have h2:=zFy hr;have b1:(bs [34]).size=1:=rfl;unfold AX at h1;generalize BN=fB at*
 unfold zq3;simp;refine fO [] h1 ?_;simp;refine fO [0,1] h2 ?_;simp[b1,zao];omega
end Go.Gr
