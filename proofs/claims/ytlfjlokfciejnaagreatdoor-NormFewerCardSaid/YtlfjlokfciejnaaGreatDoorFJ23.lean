/- Texts of ours, joined and written short by a program of ours. -/
import Derived.Test.YtlfjlokfciejnaaGreatDoorFLayS
import Derived.Test.YtlfjlokfciejnaaGreatDoorFSrt
import Derived.WalkKit
import Derived.Lib.Walk
import Derived.Test.YtlfjlokfciejnaaGreatDoorFJ19
import Derived.Test.YtlfjlokfciejnaaGreatDoorFJ17
import Derived.Shelf.SlSortCmp.NoneTotal
import Derived.Test.YtlfjlokfciejnaaGreatDoorFJ21
set_option maxRecDepth 20000
set_option maxHeartbeats 4000000
set_option linter.unusedVariables false
set_option linter.unusedSimpArgs false
namespace Go.Proofs
open Go.Shelf Go.RowKit Go.Lib Go.Sort
theorem Tryz.isNaN199(x:fE)(w:World):Calls Tryz.prog 199 #[.string x] w λe w'=>e=.returned (.bool false)/\w'=w:=by
 go_enter Tryz.func199,Tryz.ntmps199
 go_wp2
 go_ret
 exact⟨by simp,rfl⟩
def tJ(x y:fE):Int:=if Op.bytesLess x.data.toList y.data.toList=true then -1 else if(!(Op.bytesLess x.data.toList y.data.toList||decide (x=y)))=true then 1 else 0
theorem znA(t:TypeId)(a b:fE):binOp .gtr t (.string a) (.string b)=pure (.bool (!(Op.bytesLess a.data.toList b.data.toList||decide (a=b)))):=by
 show Op.stringOp .gtr a b=_;unfold Op.stringOp;rw[Go.Abs.toList_inj,ByteArray.toList_eq,ByteArray.toList_eq]
theorem Tryz.compare185(x y:fE)(w:World):Calls Tryz.prog 185 #[.string x,.string y] w λe w'=>e=.returned (.int .i64 (tJ x y))/\w'=w:=by
 have hg:=znA 9 x y
 go_enter Tryz.func185,Tryz.ntmps185
 go_wp2_with (go_at_call 199;refine(Tryz.isNaN199 _ _).mono ?_;rintro e w' ⟨rfl,hw⟩;rw[hw])
 ·rename_i h;rw[ByteArray.toList_eq,ByteArray.toList_eq]at h
  go_ret
  exact⟨by unfold tJ;rw[aC h];rfl,rfl⟩
 ·rename_i h2;have hL:Op.bytesLess x.data.toList y.data.toList=false:=by simpa using h2.1
  have he:¬x=y:=by simpa using h2.2
  go_ret
  exact⟨by unfold tJ;rw[hL];simp[he],rfl⟩
 ·rename_i h1 h2;rw[ByteArray.toList_eq,ByteArray.toList_eq]at h1;have he:x=y:=by simpa[h1]using h2
  go_ret
  exact⟨by unfold tJ;rw[h1];simp[he],rfl⟩
structure tK where
 name:fE
 a:Value
 b:Value
 c:Value
 d:Value
 h:a.oneCell'=true/\b.oneCell'=true/\c.oneCell'=true/\d.oneCell'=true
def kY(x:tK):List Value:=[.string x.name,x.a,x.b,x.c,x.d]
theorem Tryz.closure184(x y:tK)(W:World):Calls Tryz.prog 184 #[.agg (kY x).toArray,.agg (kY y).toArray] W λe w'=>e=.returned (.int .i64 (tJ x.name y.name))/\∃q os',w'=grow (W.drewN q) os':=by
 have hcon:=λW'=>Tryz.compare185 x.name y.name W';change∀W',Calls Tryz.prog 185 _ _ _ at hcon;generalize tJ x.name y.name=r at hcon⊢;unfold kY
 go_enter Tryz.func184,Tryz.ntmps184
 go_wp2_with (go_at_call 185;refine(hcon _).mono ?_;rintro e w' ⟨rfl,rfl⟩)
 go_ret
 exact⟨rfl,0,_,by rw[alloc_eq_grow,alloc_eq_grow,grow_grow];rfl⟩
instance:Inhabited tK:=⟨⟨⟨#[]⟩,.bool false,.bool false,.bool false,.bool false,⟨rfl,rfl,rfl,rfl⟩⟩⟩
def Jg(x y:tK):Int:=tJ x.name y.name
theorem zoh(x y:tK):ltOf Jg x y=Op.bytesLess x.name.data.toList y.name.data.toList:=by
 unfold ltOf Jg tJ;by_cases h:Op.bytesLess x.name.data.toList y.name.data.toList=true
 ·rw[aC h,h];try rfl
 ·rw[aB h];simp only[aK]at h;rw[h];by_cases e:x.name=y.name<;>simp[e]
theorem znW(x y:tK):ltOf Jg x y=decide (Go.Gr.jl x.name y.name):=by
 rw[zoh,Go.Gr.JB];try rfl
theorem zm3(x:tK):∀v,v∈kY x->v.oneCell'=true:=λv hv=>by
 obtain⟨h1,h2,h3,h4⟩:=x.h;simp only[kY,aN,List.not_mem_nil,eY]at hv;rcases hv with rfl|rfl|rfl|rfl|rfl
 ·rfl
 ·exact h1
 ·exact h2
 ·exact h3
 ·exact h4
def Bh(ns:List fE)(i j:Nat):Int:=tJ (ns.getD i ⟨#[]⟩) (ns.getD j ⟨#[]⟩)
def kE(ns:List fE):Array Nat:=pdq (ltOf (Bh ns)) (Array.range ns.length) 0 (Array.range ns.length).size (Lib.bitLen (Array.range ns.length).size) true true
theorem Jh(ns:List fE)(i j:Nat):ltOf (Bh ns) i j=decide (Go.Gr.jl (ns.getD i ⟨#[]⟩) (ns.getD j ⟨#[]⟩)):=by
 have h:=znW ⟨ns.getD i ⟨#[]⟩,.bool false,.bool false,.bool false,.bool false,⟨rfl,rfl,rfl,rfl⟩⟩ ⟨ns.getD j ⟨#[]⟩,.bool false,.bool false,.bool false,.bool false,⟨rfl,rfl,rfl,rfl⟩⟩;unfold ltOf Jg at h;unfold ltOf Bh;exact h
theorem G5(ns:List fE):SWO (ltOf (Bh ns)) where
 irrefl x:=by rw[Jh];simpa using Go.Gr.Bc _
 trans x y z h1 h2:=by rw[Jh]at*;simp at*;exact Go.Gr.zY h1 h2
 ntrans x y z h1 h2:=by
  rw[Jh]at*
  simp only[bf]at*
  intro h;by_cases e:ns.getD y ⟨#[]⟩=ns.getD z ⟨#[]⟩
  ·rw[<-e]at h;exact h1 h
  ·cases Go.Gr.EF e with
   |inl k=>exact h2 k
   |inr k=>exact h1 (Go.Gr.zY h k)
theorem zkZ(ns:List fE):PermIn 0 (Array.range ns.length).size (Array.range ns.length) (kE ns)/\SortedIn (ltOf (Bh ns)) 0 (Array.range ns.length).size (kE ns):=
 pdq_sorts (ltOf (Bh ns)) (G5 ns) _ 0 _ _ true true (dL _) (aM _) (Or.inl rfl)
theorem G6(ns:List fE):(kE ns).toList.Perm (List.range ns.length):=by
 obtain⟨h1,_,h3⟩:=(zkZ ns).1;simp only[Array.size_range]at h1 h3;have e1:(kE ns).extract 0 ns.length=kE ns:=by
  rw[<-h1];simp
 have e2:(Array.range ns.length).extract 0 ns.length=Array.range ns.length:=by
  apply Array.ext<;>simp
 rw[e1,e2]at h3;simpa using h3
theorem Tryz.sortN(ns:List fE)(F:Nat->tK)(hF:∀i,(F i).name=ns.getD i ⟨#[]⟩)(blk off cap:Nat)(w:World)(hH:HoldsK (λi=>kY (F i)) 5 w blk off (Array.range ns.length))(hblk:blk<w.heap.size)(hsz:ns.length<4611686018427387904):
  Calls Tryz.prog 183 #[.slice (some ⟨blk,off,none⟩) ns.length cap,.func (.func 184) #[] #[]] w λe w'=>
   e=.returned (.tuple #[])/\∃n os,w'=sortWorldK (λi=>kY (F i)) 5 w blk off n (kE ns) os:=by
 have eg:∀args w,(callFunc 184 args).run Tryz.prog w=.ok (.enter 184 args) w:=enters_of Tryz.func184 (by kernel_rfl) rfl;have hc:CmpLays Tryz.prog 184 #[] (λi=>kY (F i)) 5 (Bh ns) blk off (Array.range ns.length).size w:=λm os dk _ x y=>by
  have h:=Tryz.closure184 (F x) (F y) (sortWorldK (λi=>kY (F i)) 5 w blk off m dk os);rw[hF,hF]at h;exact h
 have h:=AnyQ.slices_SortFunc_eq Tryz.sort183 5 Tryz.isAgg237 Tryz.sizeOf237 (λi=>kY (F i)) (λ_=>rfl) (λi=>zm3 (F i)) (Bh ns) (G5 ns) 184 #[] blk off cap (Array.range ns.length) w eg hc hH hblk (by simpa using hsz);have e:(Array.range ns.length).size=ns.length:=by simp
 unfold kE;rw[e]at h⊢;exact h
end Go.Proofs
namespace Go.Gr.P
open Go.Abs Go.Proofs Go.RowKit Go.Sort Go.Shelf Go.Lib List
theorem PX{h:PH}{ρ:RM}:∀{e:List AC} {vs:List Value},iD h ρ e vs↔∀k (hk:k<e.length),∃v,vs[k]?=some v/\v.one1=true/\RepC h ρ e[k] v
|[],vs=>by simp[iD]
|c::e,[]=>by
 simp only[iD,getElem?_nil,false_iff];intro q;obtain⟨v,h,_⟩:=q 0 (by simp);cases h
| c::e,v::vs=>by
 simp only[iD];rw[PX (e:=e) (vs:=vs)];constructor
 ·rintro⟨⟨h1,h2⟩,h3⟩ k hk
  cases k with
  |zero=>exact⟨v,rfl,h1,h2⟩
  |succ k=>simpa using h3 k (by simpa using hk)
 ·intro q;obtain⟨v',e1,e2,e3⟩:=q 0 (by simp);simp only[getElem?_cons_zero,ah]at e1;subst e1;refine⟨⟨e2,e3⟩,λk hk=>?_⟩;exact q (k+1) (by simpa using hk)
theorem PY{h:PH}{ρ:RM}{s:Nat}:∀{es:List (List AC)} {vs:List Value},iL h ρ s es vs↔∀i (hi:i<es.length),es[i].length=s/\iD h ρ es[i] (vs.drop (i*s))
|[],vs=>by simp[iL]
| e::es,vs=>by
 simp only[iL];rw[PY (es:=es) (vs:=vs.drop s)];have key:∀i,(vs.drop s).drop (i*s)=vs.drop ((i+1)*s):=λi=>by rw[bM,az,bg,dC]
 constructor
 ·rintro⟨h1,h2,h3⟩ i hi
  cases i with
  |zero=>simpa using ⟨h1,h2⟩
  |succ i=>
   have:=h3 i (by simpa using hi);rw[key]at this;simpa using this
 ·intro q;have q0:=q 0 (by simp);refine⟨by simpa using q0.1,by simpa using q0.2,λi hi=>?_⟩;rw[key];exact q (i+1) (by simpa using hi)
def kZ(x:fE × List D):List AC:=.d (.str x.1)::x.2.map .d
def u7(v:Value):Value:=if v.oneCell' then v else .bool false
theorem Ji(v:Value):(u7 v).oneCell'=true:=by
 unfold u7;split
 ·assumption
 ·rfl
theorem znB(v:Value):v.one1=v.oneCell':=by cases v<;>rfl
theorem Jj{v:Value}(h:v.one1=true):u7 v=v:=by rw[znB]at h;simp[u7,h]
def oK(ns:List fE)(vs:List Value)(i:Nat):tK:=
⟨ns.getD i ⟨#[]⟩,u7 (vs.getD (i*5+1) undef),u7 (vs.getD (i*5+2) undef),u7 (vs.getD (i*5+3) undef),u7 (vs.getD (i*5+4) undef),⟨Ji _,Ji _,Ji _,Ji _⟩⟩
def mR(xs:List (fE × List D)):List (fE × List D):=(kE (xs.map (·.1))).toList.map λi=>xs.getD i (⟨#[]⟩,[])
theorem zlv(xs:List (fE × List D)):(mR xs).Perm xs:=by
 have h:=(G6 (xs.map (·.1))).map λi=>xs.getD i (⟨#[]⟩,[]);refine h.trans ?_;have:(range (xs.map (·.1)).length).map (λi=>xs.getD i (⟨#[]⟩,[]))=xs:=by
  apply ext_getElem
  ·simp
  ·intro i h1 h2;simp[getD,h2]
 rw[this]
theorem G7(xs:List (fE × List D)):(mR xs).length=xs.length:=(zlv xs).length_eq
theorem zhZ{h:PH}{ρ:RM}{xs:List (fE × List D)}(h4:∀x,x∈xs->x.2.length=4){vs:List Value}(r:iL h ρ 5 (xs.map kZ) vs){i k:Nat}(hi:i<xs.length)(hk:k<5):
  vs[i*5+k]?=some ((kY (oK (xs.map (·.1)) vs i))[k]!)/\((kY (oK (xs.map (·.1)) vs i))[k]!).one1=true/\∀(hq:k<(kZ xs[i]).length),RepC h ρ (kZ xs[i])[k] ((kY (oK (xs.map (·.1)) vs i))[k]!):=by
 have q:=(PY.1 r) i (by simpa using hi);simp only[getElem_map]at q;have hl:(kZ xs[i]).length=5:=q.1;obtain⟨v,e1,e2,e3⟩:=PX.1 q.2 k (by omega);rw[ay]at e1;have key:(kY (oK (xs.map (·.1)) vs i))[k]! =v:=by
  have hv:vs.getD (i*5+k) undef=v:=by simp[getD,e1]
  rcases(show k=0\/k=1\/k=2\/k=3\/k=4 by omega)with rfl|rfl|rfl|rfl|rfl
  ·simp only[kZ,getElem_cons_zero,RepC,RepD]at e3;simp[kY,oK,getD,hi,e3.1]
  ·simp only[kY,oK,hv,Jj e2];rfl
  ·simp only[kY,oK,hv,Jj e2];rfl
  ·simp only[kY,oK,hv,Jj e2];rfl
  ·simp only[kY,oK,hv,Jj e2];rfl
 rw[key];exact⟨e1,e2,λ_=>e3⟩
theorem put_get{vs:List Value}{d:Array Value}{t:Nat}(h:t<d.size)(hv:t<vs.length):(putCells id 0 d vs.toArray).toList[t]?=some d[t]! :=by
 simp[putCells,h,hv]
theorem PZ(ns:List fE):(kE ns).size=ns.length:=by
 have:=(G6 ns).length_eq;simpa using this
theorem znX(ns:List fE){i:Nat}(hi:i<ns.length):(kE ns)[i]! <ns.length:=by
 have hs:=PZ ns;have:(kE ns)[i]! ∈(kE ns).toList:=by
  rw[getElem!_pos _ i (by omega)];simp
 simpa using (G6 ns).mem_iff.1 this
theorem zm6(xs:List (fE × List D)){i:Nat}(hi:i<(mR xs).length):∃hj:(kE (xs.map (·.1)))[i]! <xs.length,(mR xs)[i]=xs[(kE (xs.map (·.1)))[i]!]:=by
 have hi':i<xs.length:=by rw[G7]at hi;exact hi
 have hs:=PZ (xs.map (·.1));simp only[aU]at hs;have hlt:=znX (xs.map (·.1)) (i:=i) (by simpa using hi');simp only[aU]at hlt;refine⟨hlt,?_⟩;have e:(mR xs)[i]?=some xs[(kE (xs.map (·.1)))[i]!]:=by
  have e1:(kE (xs.map (·.1))).toList[i]?=some (kE (xs.map (·.1)))[i]! :=by
   rw[getElem!_pos _ i (by omega)];simp
  unfold mR;rw[getElem?_map,e1];simp[getD,hlt]
 rw[aA hi]at e;exact bN e
theorem zlf{h:PH}{ρ:RM}{xs:List (fE × List D)}(h4:∀x,x∈xs->x.2.length=4){vs:List Value}(hvl:xs.length*5<=vs.length)(r:iL h ρ 5 (xs.map kZ) vs):
  iL h ρ 5 ((mR xs).map kZ) (putCells id 0 (flatK (λi=>kY (oK (xs.map (·.1)) vs i)) 5 (kE (xs.map (·.1)))) vs.toArray).toList:=by
 have hs:=PZ (xs.map (·.1));simp only[aU]at hs;refine PY.2 λi hi=>?_;have hi':i<(mR xs).length:=by simpa using hi
 have hin:i<xs.length:=by rw[G7]at hi';exact hi'
 obtain⟨hj,e⟩:=zm6 xs hi';have hl:(kZ xs[(kE (xs.map (·.1)))[i]!]).length=5:=by
  simp[kZ,h4 _ (aR hj)]
 simp only[getElem_map,e];refine⟨hl,PX.2 λk hk=>?_⟩;have hk5:k<5:=by omega
 obtain⟨_,q2,q3⟩:=zhZ h4 r hj hk5;refine⟨_,?_,q2,q3 hk⟩;rw[ay,put_get (by simp[hs];omega) (by omega),get_flatK _ _ _ _ (by rw[hs];omega),show(i*5+k)/5=i by omega,show(i*5+k)%5=k by omega]
theorem zlg{h:PH}{ρ:RM}{xs:List (fE × List D)}(h4:∀x,x∈xs->x.2.length=4){vs:List Value}(r:iL h ρ 5 (xs.map kZ) vs){w:World}{B:Nat}{T:TypeId}(hw:w.heap[B]?=some (.cells vs.toArray T (0,0))):
  HoldsK (λi=>kY (oK (xs.map (·.1)) vs i)) 5 w B 0 (Array.range (xs.map (·.1)).length):=λj hj=>by
 have hj':j<xs.length*5:=by simpa using hj
 have hd:j/5<xs.length:=by omega
 obtain⟨q1,_,_⟩:=zhZ h4 r hd (k:=j%5) (by omega);rw[show j/5*5+j%5=j by omega]at q1;rw[get_flatK _ _ _ _ (by simpa using hj')];have e:(Array.range (xs.map (·.1)).length)[j/5]! =j/5:=by simp[hd]
 rw[e];refine⟨?_,by simp[World.frozen?,hw]⟩;simp only[World.cell?,hw,Nat.zero_add,id];simpa using q1
theorem znk(L:Nat->Bool):∀l:List D,AC.lvs L (l.map .d)=true
|[]=>by simp[AC.lvs]
|d::l=>by simp[AC.lvs,AC.lv,znk L l]
theorem znw(L:Nat->Bool)(x:fE × List D):AC.lvs L (kZ x)=true:=by
 simp[kZ,AC.lvs,AC.lv,znk]
theorem znx(b c:Blk):upd (hpOf [b]) 0 c=hpOf [c]:=by
 funext i;cases i with
 |zero=>simp[upd]
 |succ i=>simp[upd]
theorem zln{α:Type} [Inhabited α](enc:α->List Value)(k:Nat)(w:World)(B n:Nat)(d:Array α)(os:Array Obj){vs:Array Value}{T:TypeId}(hw:w.heap[B]?=some (.cells vs T (0,0))):
  (sortWorldK enc k w B 0 n d os).heap=w.heap.setIfInBounds B (.cells (putCells id 0 (flatK enc k d) vs) T (0,0))++os:=by
 simp only[sortWorldK,putRowK,putRow,mapBlock,Go.Sort.grow,Go.Sort.ahead];congr 1;apply Array.ext_getElem?;intro i;simp only[Array.getElem?_modify,Array.getElem?_setIfInBounds];by_cases hi:B=i
 ·subst hi;have hlt:B<w.heap.size:=by
   rcases aW B w.heap.size with q|q
   ·exact q
   ·rw[aj q]at hw;cases hw
  rw[bH hlt]at hw;have hw:=bN hw;simp[hlt,hw,onCells]
 ·simp[hi]
theorem zjX(xs:List (fE × List D))(h4:∀x,x∈xs->x.2.length=4)(h0:0<xs.length)(hl:xs.length<=1073741824):
  MCall Pg 183 [.c (.msl 5 0 0 xs.length),.c (.d (.fn (.func 184) []))] [.arr 5 (xs.map kZ)] (.tup []) [.arr 5 ((mR xs).map kZ)]:=by
 refine⟨by decide+kernel,aM _,BG (by simp),by simp,by simp[znw],λh ρ w argsC K _ r=>?_⟩
 match argsC,r with
 | [v1,v2],r=>
  simp only[zai,RepV,RepC,RepD,and_true]at r;obtain⟨⟨p,a,e1,e2,e3,e4,e5⟩,us,f1,f2,f3⟩:=r;have us0:us=[]:=aT.1 (by simpa using f2);subst us0;subst f1;have hpo:=K.own 0 p e1;simp only[Qt]at hpo;have hx:xs.map kZ≠[]:=by
   intro q;have:=dO length q;simp only[aU,length_nil]at this;omega
  rcases hpo with⟨_,q⟩|⟨vs,T,hw,hvl,hel,hlm,rce⟩
  ·exact absurd q hx
  have hel':xs.length<=p.2:=by simpa using hel
  have hp2:0<p.2:=by omega
  obtain rfl:=e4 hp2;have hB:p.1<w.heap.size:=by
   rcases aW p.1 w.heap.size with q|q
   ·exact q
   ·rw[aj q]at hw;cases hw
  have hvl':xs.length*5<=vs.length:=by rw[hvl];exact bZ 5 hel'
  subst e2;have hsz:(xs.map (·.1)).length<4611686018427387904:=by rw[aU];omega
  have hs:=Tryz.sortN (xs.map (·.1)) (oK (xs.map (·.1)) vs) (λi=>rfl) p.1 0 (p.2-0) w (zlg h4 rce hw) hB hsz;simp only[aU]at hs;refine hs.mono λe w' q=>?_;obtain⟨rfl,n,os,rfl⟩:=q;have hrep:=zlf h4 hvl' rce;have hheap:=zln (λi=>kY (oK (xs.map (·.1)) vs i)) 5 w p.1 n (kE (xs.map (·.1))) os hw;have hcl:(putCells id 0 (flatK (λi=>kY (oK (xs.map (·.1)) vs i)) 5 (kE (xs.map (·.1)))) vs.toArray).toList.length=p.2*5:=by simp[putCells,hvl]
  generalize putCells id 0 (flatK (λi=>kY (oK (xs.map (·.1)) vs i)) 5 (kE (xs.map (·.1)))) vs.toArray=cs at*
  have hbr:zaI h ρ p (.arr 5 ((mR xs).map kZ)) (w.heap.setIfInBounds p.1 (.cells cs T (0,0))):=by
   refine .inr ⟨cs.toList,T,by simp[hB],hcl,by simpa[G7]using hel',by simpa[G7]using hlm,hrep⟩
  have hreal:Real (hpOf [Blk.arr 5 (xs.map kZ)] 0) p:=hp2;obtain⟨K1,S1⟩:=K.set (.cells cs T (0,0)) e1 hreal (blk:=.arr 5 ((mR xs).map kZ)) (by simp) hbr;rw[znx]at K1 S1;have hold:∀B,B<(w.heap.setIfInBounds p.1 (.cells cs T (0,0))).size->(w.heap.setIfInBounds p.1 (.cells cs T (0,0))++os)[B]?=(w.heap.setIfInBounds p.1 (.cells cs T (0,0)))[B]?:=λB hB=>Array.getElem?_append_left hB
  have K2:HRel h ρ (hpOf [Blk.arr 5 ((mR xs).map kZ)]) (w.heap.setIfInBounds p.1 (.cells cs T (0,0))++os):=
   K1.grow (fV h) (λB o e=>by rw[hold B (K1.lt e)];exact K1.pers B o e) λB hB _=>⟨hold B hB,rfl⟩
  have S2:Step h ρ (hpOf [Blk.arr 5 ((mR xs).map kZ)]) (w.heap.setIfInBounds p.1 (.cells cs T (0,0))) h ρ (hpOf [Blk.arr 5 ((mR xs).map kZ)]) (w.heap.setIfInBounds p.1 (.cells cs T (0,0))++os):=
   ⟨fV h,λB hB _=>rfl,fZ _,by simp,λB hB _=>hold B hB,λb p e hr=>.inr ⟨b,p,e,hr,rfl⟩⟩
  refine⟨.tuple #[],h,ρ,rfl,?_,?_,⟨rfl,rfl,rfl⟩,⟨[],rfl,by simp[zai]⟩,λ_ _=>rfl⟩
  ·rw[hheap];exact S1.wk.trans S2
  ·rw[hheap];exact K2
theorem zjY:MCall Pg 183 [.c (.msl 5 0 0 0),.c (.d (.fn (.func 184) []))] [.arr 5 []] (.tup []) [.arr 5 []]:=by
 refine⟨by decide+kernel,aM _,BG (by simp),by simp,by simp,λh ρ w argsC K _ r=>?_⟩
 match argsC,r with
 |[v1,v2],r=>
  simp only[zai,RepV,RepC,RepD,and_true]at r;obtain⟨⟨p,a,e1,e2,e3,e4,e5⟩,us,f1,f2,f3⟩:=r;subst e2;have hs:=AnyF.slices_SortFunc_none (P:=Tryz.prog) (ρ:=Tryz.sort183_ren) {Tryz.sort183 with} a (p.2-0) v2 w;refine Calls.mono hs λe w' q=>?_;obtain⟨rfl,rfl⟩:=q;exact⟨.tuple #[],h,ρ,rfl,(Step.refl _ _ _ _).wk,K,⟨rfl,rfl,rfl⟩,⟨[],rfl,by simp[zai]⟩,λ_ _=>rfl⟩
theorem zkJ(xs:List (fE × List D))(h4:∀x,x∈xs->x.2.length=4)(hl:xs.length<=1073741824):
  MCall Pg 183 [.c (.msl 5 0 0 xs.length),.c (.d (.fn (.func 184) []))] [.arr 5 (xs.map kZ)] (.tup []) [.arr 5 ((mR xs).map kZ)]:=by
 rcases Nat.eq_zero_or_pos xs.length with h0|h0
 ·have e:xs=[]:=aT.1 h0;have e2:mR xs=[]:=aT.1 (by rw[G7];exact h0);rw[e2,e];exact zjY
 ·exact zjX xs h4 h0 hl
end Go.Gr.P
namespace Go.Gr.P
open Go.Abs Go.Proofs List
def noT:gT:=.mk 0 (bs []) [] []
def nV(xs:List (fE × gT)):List (fE × gT):=(kE (xs.map (·.1))).toList.map λi=>xs.getD i (⟨#[]⟩,noT)
theorem P6(xs:List (fE × gT)):(nV xs).Perm xs:=by
 have h:=(G6 (xs.map (·.1))).map λi=>xs.getD i (⟨#[]⟩,noT);refine h.trans ?_;have:(range (xs.map (·.1)).length).map (λi=>xs.getD i (⟨#[]⟩,noT))=xs:=by
  apply ext_getElem
  ·simp
  ·intro i h1 h2;simp[getD,h2]
 rw[this]
def tL(x:fE × gT):fE × List D:=(x.1,x.2.enc)
theorem zlR(xs:List (fE × gT)){i:Nat}(hi:i<xs.length):(xs.map tL).getD i (⟨#[]⟩,[])=tL (xs.getD i (⟨#[]⟩,noT)):=by
 simp[getD,hi]
attribute [local irreducible] kE in
theorem zlS(xs:List (fE × gT)):mR (xs.map tL)=(nV xs).map tL:=by
 have e:(xs.map tL).map (·.1)=xs.map (·.1):=by simp[tL]
 have hp:=G6 (xs.map (·.1));unfold mR nV;rw[e];generalize (kE (xs.map (·.1))).toList=l at hp⊢;rw[bi];refine bW λi hi=>?_;have hi':=hp.mem_iff.1 hi;simp only[mem_range,aU]at hi';exact zlR xs hi'
def qh(l:List fE)(j:Nat):Bool:=decide (j=0)|| !decide (l.getD (j-1) ⟨#[]⟩=l.getD j ⟨#[]⟩)
def ru(l:List fE):Bool:=(range l.length).all (qh l)
def mU(ns:List fE)(ts:List gT):gT × Bool:=
 if ns.length≠ts.length\/16<ns.length then(noT,false)
 else if ns.all Ap=true/\ru ((nV (ns.zip ts)).map (·.1))=true then(.mk 5 (bs []) ((nV (ns.zip ts)).map (·.1)) ((nV (ns.zip ts)).map (·.2)),true)
 else(noT,false)
abbrev xS(ns:List fE)(ts:List gT)(j:Nat):List (Nat × AV):=[(1,.c (.d (.sl false 4 (ts.map gT.enc)))),(4,.c (.ptr 0 0)),(6,.c (.msl 5 1 0 j)),(23,.c (.d (.sl false 1 (encS ns)))),(24,.c (.d (.int .i64 ns.length))),(25,.c (.d (.int .i64 j)))]
def lI(x:fE × gT):List D:=.str x.1::x.2.enc
abbrev uR(xs:List (fE × gT)):Blk:=.arr 5 ((xs.map lI).map (·.map .d))
theorem zkv(xs:List (fE × gT)):(xs.map tL).map kZ=(xs.map lI).map (·.map .d):=by
 rw[bi,bi];try rfl
theorem spl(n:fE)(t:gT):splice [AC.d (D.str n),AC.d (D.int IntKind.i64 0),AC.d (D.str (bs [])),AC.d (D.sl true 1 []),AC.d (D.sl true 4 [])] 1 (List.map AC.d t.enc)=(lI (n,t)).map .d:=by
 obtain⟨k,m,s,l⟩:=t;simp[splice,gT.enc,lI]
theorem zmQ(x:fE × gT):(lI x).length=5:=by
 obtain⟨n,⟨k,m,s,l⟩⟩:=x;simp[gT.enc,lI]
theorem zob{c:Ctx}(hp:c.pure)(ns:List fE)(ts:List gT)(hn:ns.length=ts.length)(h16:ns.length<=16){Q:Exit->St->Prop}{S:St}{g}{ms:List Nat}
  (h0:iM ms S (xS ns ts 0) [mJ,uR []])
  (hF:ns.all Ap=false->∀T M n,Abs.look T 4=.c (.ptr 0 0)->Abs.look T 5=.c (.d (.bool false))->M 0=mJ->Q .ret ⟨T,M,n⟩)
  (hQ:ns.all Ap=true->∀T,Abs.look T 4=.c (.ptr 0 0)->Abs.look T 6=.c (.msl 5 1 0 ns.length)->
   Q (.exit 0) ⟨T,hpOf [mJ,uR (ns.zip ts)],2⟩):mW Pg c Ou Q g S:=by
 refine fO gy hp (λj:Nat=>j<=ns.length/\(ns.take j).all Ap=true) (λj=>xS ns ts j)
  (λj=>[mJ,uR ((ns.zip ts).take j)]) (λj=>ns.length-j) 0 ms ⟨by simp,by simp⟩ (by simpa using h0) λj ⟨h1,h2⟩=>?_
 unfold Ou;simp;apply gM<;>intro h
 ·have hj:j<ns.length:=by simpa using h
  have ht:j<ts.length:=by omega
  simp[aA hj,encS];refine gQ (IR ns[j]) ?_;simp;apply gM<;>intro hb
  ·simp at hb;refine hF ?_ _ _ _ (by simp) (by simp) (by simp);rw[all_eq_false];exact⟨ns[j],aR hj,by simp[hb]⟩
  ·simp at hb;have hz:j<(ns.zip ts).length:=by simp[length_zip];omega
   have htk:(ns.zip ts).take (j+1)=(ns.zip ts).take j++[(ns[j],ts[j])]:=by
    rw[aJ hz,getElem_zip]
   have hall:(ns.take (j+1)).all Ap=true:=by
    rw[aJ hj,all_append,h2];simp[hb]
   simp[aA ht,spl,zmQ];refine⟨by omega,by omega,?_⟩;refine fF (j+1) [0,2] ⟨by omega,hall⟩ (by omega) ?_;rw[htk];simp;refine⟨wI,by rw[take_take,eB];exact⟨rfl,rfl⟩,λx hx=>?_⟩;obtain⟨y,_,rfl⟩:=ae.1 (bY hx);simp
 ·have hj:j=ns.length:=by simp at h;omega
  subst hj;simp only[bO]at h2;have hz:(ns.zip ts).take ns.length=ns.zip ts:=aG (by simp[length_zip];omega);rw[hz];exact hQ h2 _ (by simp) (by simp)
abbrev znr(xs:List (fE × gT))(j:Nat):List (Nat × AV):=[(4,.c (.ptr 0 0)),(6,.c (.d (.sl false 5 (xs.map lI)))),(9,.c (.ptr 2 0)),(47,.c (.d (.sl false 5 (xs.map lI)))),(48,.c (.d (.int .i64 xs.length))),(49,.c (.d (.int .i64 j)))]
abbrev G8(xs:List (fE × gT))(j:Nat):List Blk:=[mJ,.dead,.box [.d (.int .i64 5),.d (.str (bs [])),.msl 1 3 0 j,.msl 4 4 0 j],.arr 1 (((xs.take j).map λx=>[D.str x.1]).map (·.map .d)),.arr 4 (((xs.take j).map λx=>x.2.enc).map (·.map .d))]
theorem znN{c:Ctx}(hp:c.pure)(xs:List (fE × gT))(h16:xs.length<=16){Q:Exit->St->Prop}{S:St}{g}{ms:List Nat}
  (h0:iM ms S (znr xs 0) (G8 xs 0))
  (hF:ru (xs.map (·.1))=false->∀T M n,Abs.look T 4=.c (.ptr 0 0)->Abs.look T 5=.c (.d (.bool false))->M 0=mJ->Q .ret ⟨T,M,n⟩)
  (hQ:ru (xs.map (·.1))=true->∀T,Abs.look T 4=.c (.ptr 0 0)->Abs.look T 9=.c (.ptr 2 0)->
   Q (.exit 2) ⟨T,hpOf (G8 xs xs.length),5⟩):mW Pg c Ov Q g S:=by
 refine fO gy hp (λj:Nat=>j<=xs.length/\(range j).all (qh (xs.map (·.1)))=true) (λj=>znr xs j)
  (λj=>G8 xs j) (λj=>xs.length-j) 0 ms ⟨by simp,by simp⟩ (by simpa using h0) λj ⟨h1,h2⟩=>?_
 unfold Ov;simp;apply gM<;>intro h
 ·have hj:j<xs.length:=by simpa using h
  have hadj:qh (xs.map (·.1)) j=false->ru (xs.map (·.1))=false:=λe=>by
   unfold ru;rw[all_eq_false];exact⟨j,by simpa using hj,by simp[e]⟩
  have hnext:qh (xs.map (·.1)) j=true->(range (j+1)).all (qh (xs.map (·.1)))=true:=λe=>by
   rw[range_succ,all_append,h2];simp[e]
  have htk:xs.take (j+1)=xs.take j++[xs[j]]:=aJ hj;rcases hx:xs[j]with⟨nm,⟨k,m,s,l⟩⟩;rw[hx]at htk;rcases Nat.eq_zero_or_pos j with h0j|h0j
  ·subst h0j;have hu:qh (xs.map (·.1)) 0=true:=by simp[qh]
   simp[aA hj,hx,lI,gT.enc,cut];refine⟨by decide,by decide,fF 1 [0,1,2,6,7] ⟨by omega,hnext hu⟩ (by omega) ?_⟩;have htk':xs.take 1=[(nm,.mk k m s l)]:=by simpa using htk
   unfold G8;simp only[htk'];simp[gT.enc];decide
  ·have hi:j-1<xs.length:=by omega
   have hwr:IntKind.i64.wrap ((j:Int)-1)=((j-1:Nat):Int):=by rw[show((j:Int)-1)=((j-1:Nat):Int) by omega];exact wI
   rcases hy:xs[j-1]with⟨nm2,⟨k2,m2,s2,l2⟩⟩;have hu:qh (xs.map (·.1)) j= !decide (nm2=nm):=by
    simp[qh,getD,hj,hi,hx,hy];omega
   simp[aA hj,aA hi,hx,hy,hwr,h0j,lI,gT.enc,cut];refine⟨by decide,gM (λhb=>?_) (λhb=>?_)⟩
   ·exact hF (hadj (by rw[hu];simpa using hb)) _ _ _ (by simp) (by simp) (by simp)
   ·refine⟨by omega,by omega,by omega,by omega,by decide,?_⟩;refine fF (j+1) [0,1,2,6,7] ⟨by omega,hnext (by rw[hu];simpa using hb)⟩ (by omega) ?_;unfold G8;simp only[htk];simp[gT.enc];refine⟨wI,⟨by rw[take_take,eB],λx hx=>?_⟩,by rw[take_take,eB],λx hx=>?_⟩
    ·obtain⟨y,_,rfl⟩:=ae.1 (bY hx);simp
    ·obtain⟨y,_,rfl⟩:=ae.1 (bY hx);simp
 ·have hj:j=xs.length:=by simp at h;omega
  subst hj;exact hQ (by unfold ru;rw[aU];exact h2) _ (by simp) (by simp)
theorem MK(ns:List fE)(ts:List gT):gU Pg 166 [.one (.sl false 1 (encS ns)),.one (.sl false 4 (ts.map gT.enc))] (.tup [.agg (mU ns ts).1.enc,.one (.bool (mU ns ts).2)]):=by
 refine zhD (by simp) λo c hN hp=>?_;have hl1:ns.length<=zah:=by
  have:=o.1;simp only[DV.ok,D.ok,encS,aU]at this;exact this.1
 have hl2:ts.length<=zah:=by
  have:=o.2.1;simp only[DV.ok,D.ok,aU]at this;exact this.1
 unfold zah at hl1 hl2;unfold ZZ;simp;apply gM<;>intro h
 ·have hn:ns.length=ts.length:=by simp at h;omega
  apply gM<;>intro h2
  ·have e:mU ns ts=(noT,false):=by
    unfold mU;rw[aC (.inr (by simp at h2;omega))]
   rw[e];simp[noT,gT.enc,gT.encs,encS]
  ·have h16:ns.length<=16:=by simp at h2;omega
   refine fU [.t 6] ?_;simp;refine zob hp ns ts hn h16 (ms:=[0,1]) (by simp) (λhf T M n e4 e5 m0=>?_) λht T e4 e6=>?_
   ·have e:mU ns ts=(noT,false):=by
     unfold mU;rw[aB (by omega),aB (by simp[hf])]
    rw[e];simp[e4,e5,m0,noT,gT.enc,gT.encs,encS]
   ·simp[e4,e6];have hs:=zkJ ((ns.zip ts).map tL) (λx hx=>by
     obtain⟨y,_,rfl⟩:=ae.1 hx;obtain⟨_,⟨k,n,s,l⟩⟩:=y
     simp[tL,gT.enc]) (by simp[length_zip];omega)
    rw[aU,length_zip,<-hn,eB,zlS,zkv,zkv]at hs;refine gN [1] hs ?_;have hrec:mU ns ts=if ru ((nV (ns.zip ts)).map (·.1))=true then(.mk 5 (bs []) ((nV (ns.zip ts)).map (·.1)) ((nV (ns.zip ts)).map (·.2)),true)else(noT,false):=by
     unfold mU;rw[aB (by omega)];simp only[ht,true_and]
    have hxl:(nV (ns.zip ts)).length=ns.length:=by rw[(P6 _).length_eq,length_zip];omega
    clear hs;rw[hrec];generalize nV (ns.zip ts)=xs at*
    have h16':xs.length<=16:=by omega
    rw[<-hxl]at e6⊢;simp;refine fT [1] ?_;simp[iV,e4,e6];refine fU [.c 2 2,.c 2 3] ?_;have htl:take xs.length (xs.map lI)=xs.map lI:=aG (by simp);simp[iV,e4,e6,htl];refine znN hp xs h16' (ms:=[0,1,2,3,4]) (by simp[iV,e4,e6,htl]) (λhf T M n e4 e5 m0=>?_) λha T e4 e9=>?_
    ·rw[aB (by simp[hf])];simp[e4,e5,m0,noT,gT.enc,gT.encs,encS]
    ·rw[aC ha];simp[e4,e9,gT.enc,gT.encs,encS];refine⟨?_,?_⟩
     ·rw[aG (by simp)];try rfl
     ·rw[aG (by simp),gT.encs_map,bi];try rfl
 ·have e:mU ns ts=(noT,false):=by
   unfold mU;rw[aC (.inl (by simp at h;omega))]
  rw[e];simp[noT,gT.enc,gT.encs,encS]
def wB(k:Int)(s:List fE)(l:List gT):gT × Bool:=
 if k=5 then mU s l else if k=6 then(.mk 6 (bs []) [] l,decide (l.length=2))else w9 l
mutual
def lS:gT->gT × Bool
|.mk k _ s l=>if 5<=k/\k<=7 then(if(lu l).2=true then wB k s (lu l).1 else(noT,false))else if 0<=k/\k<=4 then(.mk k (bs []) [] [],true)else(noT,false)
def lu:List gT->List gT × Bool
|[]=>([],true)
|t::l=>if(lS t).2=true then((lS t).1::(lu l).1,(lu l).2)else([],false)
end
theorem zmz(t:gT):lS t=if 5<=t.kind/\t.kind<=7 then(if(lu t.kids).2=true then wB t.kind t.names (lu t.kids).1 else(noT,false))else if 0<=t.kind/\t.kind<=4 then(.mk t.kind (bs []) [] [],true)else(noT,false):=by
 cases t;rw[lS];try rfl
abbrev y8(t:gT)(j:Nat):List (Nat × AV):=[(1,.c (.d (.rp t.enc 0))),(2,.c (.ptr 0 0)),(4,.c (.msl 4 1 0 j)),(18,.c (.d (.sl false 4 (t.kids.map gT.enc)))),(19,.c (.d (.int .i64 t.kids.length))),(20,.c (.d (.int .i64 j)))]
abbrev Cz(l:List gT):List Blk:=[mJ,.arr 4 ((l.map gT.enc).map (·.map .d))]
theorem Cg{c:Ctx}(hp:c.pure)(t:gT)(hl:t.kids.length<=1000)(ih:∀e,e∈t.kids->gU Pg 143 [.agg e.enc] (.tup [.agg (lS e).1.enc,.one (.bool (lS e).2)])){Q:Exit->St->Prop}{S:St}{g}{ms:List Nat}
  (h0:iM ms S (y8 t 0) (Cz []))
  (hF:(lu t.kids).2=false->∀T M n,Abs.look T 2=.c (.ptr 0 0)->Abs.look T 3=.c (.d (.bool false))->M 0=mJ->Q .ret ⟨T,M,n⟩)
  (hQ:(lu t.kids).2=true->∀T,Abs.look T 1=.c (.d (.rp t.enc 0))->Abs.look T 2=.c (.ptr 0 0)->Abs.look T 4=.c (.msl 4 1 0 (lu t.kids).1.length)->
   Q (.exit 0) ⟨T,hpOf (Cz (lu t.kids).1),2⟩):mW Pg c Oo Q g S:=by
 refine fO gy hp (λx:Nat × List gT=>x.1<=t.kids.length/\x.2.length=x.1/\lu t.kids=(x.2++(lu (t.kids.drop x.1)).1,(lu (t.kids.drop x.1)).2)) (λx=>y8 t x.1)
  (λx=>Cz x.2) (λx=>t.kids.length-x.1) (0,[]) ms ⟨by simp,rfl,by simp⟩ h0 λ⟨j,acc⟩ ⟨h1,h3,h2⟩=>?_
 unfold Oo;simp only at h1 h2 h3;simp;apply gM<;>intro h
 ·have hj:j<t.kids.length:=by simpa using h
  rw[aD hj,lu]at h2;have hc:∀e:gT,cut e.enc 0 4=e.enc:=λe=>by unfold cut;simp
  have hc2:∀e:gT,cut (e.enc.map AC.d) 0 4=e.enc.map AC.d:=λe=>by unfold cut;simp
  simp[aA hj,hc,hc2];refine gQ (ih _ (aR hj)) ?_;simp[hc,hc2];apply gM<;>intro hb
  ·simp at hb;rw[aB (by simp[hb])]at h2;refine hF (by rw[h2]) _ _ _ (by simp) (by simp) (by simp)
  ·simp at hb;rw[aC hb]at h2;refine⟨by omega,by omega,?_⟩;refine fF (j+1,acc++[(lS t.kids[j]).1]) [0,4] ⟨by simp only;omega,by simp[h3],by rw[h2];simp⟩ (by simp;omega) ?_;simp;exact⟨wI,aG (by simp;omega)⟩
 ·have hj:j=t.kids.length:=by simp at h;omega
  subst hj;rw[aO,lu]at h2;simp only[bL]at h2;rw[h2]at hQ;have:=hQ rfl;simp only[h3]at this;exact this _ (by simp) (by simp) (by simp)
theorem zn7(t:gT)(hk:t.kind=5)(hl:t.kids.length<=1000)(ih:∀e,e∈t.kids->gU Pg 143 [.agg e.enc] (.tup [.agg (lS e).1.enc,.one (.bool (lS e).2)])):
  gU Pg 143 [.agg t.enc] (.tup [.agg (if(lu t.kids).2=true then mU t.names (lu t.kids).1 else(noT,false)).1.enc,.one (.bool (if(lu t.kids).2=true then mU t.names (lu t.kids).1 else(noT,false)).2)]):=by
 refine J7 (by simp) λo c hN hp=>?_;unfold GU;simp[hk];refine fU [.t 4] ?_;simp[hk];refine Cg hp t hl ih (ms:=[0,1]) (by simp) (λhf T M n e2 e3 m0=>?_) λha T e1 e2 e4=>?_
 ·rw[aB (by simp[hf])];simp[e2,e3,m0,noT,gT.enc,gT.encs,encS]
 ·rw[aC ha];simp[e1,e2,e4,hk];generalize (lu t.kids).1=l at*
  refine fT [1] ?_;have htl:take l.length (l.map gT.enc)=l.map gT.enc:=aG (by simp);simp[iV,e1,e2,e4,htl];refine gQ (MK t.names l) ?_;have hc:∀e:gT,cut e.enc 0 4=e.enc:=λe=>by unfold cut;simp
  simp[iV,e1,e2,e4,htl,hc]<;>(rw[gT.enc_eq];simp[D.er])
theorem zn8(t:gT)(hk:t.kind=7)(hl:t.kids.length<=1000)(ih:∀e,e∈t.kids->gU Pg 143 [.agg e.enc] (.tup [.agg (lS e).1.enc,.one (.bool (lS e).2)])):
  gU Pg 143 [.agg t.enc] (.tup [.agg (if(lu t.kids).2=true then w9 (lu t.kids).1 else(noT,false)).1.enc,.one (.bool (if(lu t.kids).2=true then w9 (lu t.kids).1 else(noT,false)).2)]):=by
 refine J7 (by simp) λo c hN hp=>?_;unfold GU;simp[hk];refine fU [.t 4] ?_;simp[hk];refine Cg hp t hl ih (ms:=[0,1]) (by simp) (λhf T M n e2 e3 m0=>?_) λha T e1 e2 e4=>?_
 ·rw[aB (by simp[hf])];simp[e2,e3,m0,noT,gT.enc,gT.encs,encS]
 ·rw[aC ha];simp[e1,e2,e4,hk];generalize (lu t.kids).1=l at*
  refine fT [1] ?_;have htl:take l.length (l.map gT.enc)=l.map gT.enc:=aG (by simp);simp[iV,e1,e2,e4,htl];refine gQ (MN l) ?_;have hc:∀e:gT,cut e.enc 0 4=e.enc:=λe=>by unfold cut;simp
  simp[iV,e1,e2,e4,htl,hc]<;>(rw[gT.enc_eq];simp[D.er])
theorem zn9(t:gT)(hk:t.kind=6)(hl:t.kids.length<=1000)(ih:∀e,e∈t.kids->gU Pg 143 [.agg e.enc] (.tup [.agg (lS e).1.enc,.one (.bool (lS e).2)])):
  gU Pg 143 [.agg t.enc] (.tup [.agg (if(lu t.kids).2=true then(gT.mk 6 (bs []) [] (lu t.kids).1,decide ((lu t.kids).1.length=2))else(noT,false)).1.enc,.one (.bool (if(lu t.kids).2=true then(gT.mk 6 (bs []) [] (lu t.kids).1,decide ((lu t.kids).1.length=2))else(noT,false)).2)]):=by
 refine J7 (by simp) λo c hN hp=>?_;unfold GU;simp[hk];refine fU [.t 4] ?_;simp[hk];refine Cg hp t hl ih (ms:=[0,1]) (by simp) (λhf T M n e2 e3 m0=>?_) λha T e1 e2 e4=>?_
 ·rw[aB (by simp[hf])];simp[e2,e3,m0,noT,gT.enc,gT.encs,encS]
 ·rw[aC ha];simp[e1,e2,e4,hk];generalize (lu t.kids).1=l at*
  refine fT [1] ?_;have htl:take l.length (l.map gT.enc)=l.map gT.enc:=aG (by simp);simp[iV,e1,e2,e4,htl];simp[gT.enc,gT.encs_map,encS,D.er];omega
end Go.Gr.P
namespace Go.Gr.P
open Go.Abs Go.Proofs
mutual
def kr:gT->Prop
|.mk _ _ _ l=>l.length<=200/\qY l
def qY:List gT->Prop
|[]=>True
|t::l=>kr t/\qY l
end
theorem I5:∀l:List gT,qY l↔∀x,x∈l->kr x
|[]=>by simp[qY]
|t::l=>by simp[qY,I5 l]
theorem Jk(t:gT):kr t↔t.kids.length<=200/\∀x,x∈t.kids->kr x:=by
 cases t;simp only[kr,I5,gT.kids]
theorem znZ(t:gT):1<=sI t:=by
 have key:∀(l:List gT) (n:Nat),n<=mQ l n:=λl=>by
  induction l with
  |nil=>intro n;rw[mQ];omega
  |cons t l ih=>intro n;rw[mQ];split;omega;have:=ih (n+sI t);omega
 rw[GZ];have:=key t.kids 1;omega
theorem zjL:∀(l:List gT) (n:Nat),n<=200->mQ l n<=200->n+l.length<=200/\∀x,x∈l->sI x<=200
|[],n,hn,_=>⟨by simpa using hn,λx hx=>by cases hx⟩
| t::l,n,hn,h=>by
 rw[mQ,aB (by omega)]at h;have h1:=znZ t;by_cases q:n+sI t<=200
 ·obtain⟨p1,p2⟩:=zjL l (n+sI t) q h;refine⟨by simp only[List.length_cons];omega,λx hx=>?_⟩;rcases aN.1 hx with rfl|hx
  ·omega
  ·exact p2 x hx
 ·rw[zlB (by omega)]at h;omega
mutual
theorem P7:∀t:gT,sI t<=200->kr t
|.mk k n s l,h=>by
 rw[GZ]at h;simp only[gT.kids]at h;obtain⟨p1,p2⟩:=zjL l 1 (by omega) (by omega);rw[kr];exact⟨by omega,zjM l p2⟩
theorem zjM:∀l:List gT,(∀x,x∈l->sI x<=200)->qY l
|[],_=>by rw[qY];trivial
|t::l,h=>by
 rw[qY];exact⟨P7 t (h t (by simp)),zjM l λx hx=>h x (by simp[hx])⟩
end
theorem zog(t:gT)(h5:¬(5<=t.kind/\t.kind<=7)):
  gU Pg 143 [.agg t.enc] (.tup [.agg (if 0<=t.kind/\t.kind<=4 then(gT.mk t.kind (bs []) [] [],true)else(noT,false)).1.enc,.one (.bool (if 0<=t.kind/\t.kind<=4 then(gT.mk t.kind (bs []) [] [],true)else(noT,false)).2)]):=by
 refine J7 (by simp) λo c hN hp=>?_;have hw:=t.enc_eq;unfold GU;by_cases hk:0<=t.kind/\t.kind<=4
 ·rw[aC hk];have hk:t.kind=0\/t.kind=1\/t.kind=2\/t.kind=3\/t.kind=4:=by omega
  rcases hk with hk|hk|hk|hk|hk<;>simp[hk,gT.enc,gT.encs,encS]
 ·rw[aB hk];have n0:¬t.kind=0:=by omega
  have n1:¬t.kind=1:=by omega
  have n2:¬t.kind=2:=by omega
  have n3:¬t.kind=3:=by omega
  have n4:¬t.kind=4:=by omega
  have n5:¬t.kind=5:=by omega
  have n6:¬t.kind=6:=by omega
  have n7:¬t.kind=7:=by omega
  by_cases g:5<=t.kind
  ·have g':¬t.kind<=7:=by omega
   simp[g,g',n0,n1,n2,n3,n4,n5,n6,n7,noT,gT.enc,gT.encs,encS]
  ·simp[g,n0,n1,n2,n3,n4,n5,n6,n7,noT,gT.enc,gT.encs,encS]
theorem MU(t:gT)(hl:t.kids.length<=1000)(ih:∀e,e∈t.kids->gU Pg 143 [.agg e.enc] (.tup [.agg (lS e).1.enc,.one (.bool (lS e).2)])):
  gU Pg 143 [.agg t.enc] (.tup [.agg (lS t).1.enc,.one (.bool (lS t).2)]):=by
 rw[zmz];by_cases h5:5<=t.kind/\t.kind<=7
 ·rw[aC h5];unfold wB;by_cases k5:t.kind=5
  ·rw[aC k5];exact zn7 t k5 hl ih
  ·by_cases k6:t.kind=6
   ·rw[aB k5,aC k6];exact zn9 t k6 hl ih
   ·rw[aB k5,aB k6];exact zn8 t (by omega) hl ih
 ·rw[aB h5];exact zog t h5
mutual
theorem FH:∀t:gT,kr t->gU Pg 143 [.agg t.enc] (.tup [.agg (lS t).1.enc,.one (.bool (lS t).2)])
|.mk k n s l,h=>by
 rw[kr]at h;exact MU (.mk k n s l) (by simp only[gT.kids];omega) (λe he=>FI l h.2 e he)
theorem FI:∀l:List gT,qY l->∀e,e∈l->gU Pg 143 [.agg e.enc] (.tup [.agg (lS e).1.enc,.one (.bool (lS e).2)])
|[],_,e,he=>by cases he
|t::l,h,e,he=>by
 rw[qY]at h;cases he with
 |head=>exact FH t h.1
 |tail _ he=>exact FI l h.2 e he
end
def DC(t:gT):gT × Int:=if 16<hgt 16 t\/200<sI t then(noT,9)else if(lS t).2=true then((lS t).1,0)else(noT,9)
theorem AU(t:gT):gU Pg 95 [.agg t.enc] (.tup [.agg (DC t).1.enc,.one (.int .i64 (DC t).2)]):=by
 refine zjm (by simp) λo c hN hp=>?_;unfold ZL DC;have he:noT.enc=[.int .i64 0,.str (bs []),.sl false 1 [],.sl false 4 []]:=rfl;simp;refine gQ (FD t) ?_;simp;apply gM<;>intro h1
 ·simp at h1;refine gQ (zi5 t) ?_;simp;apply gM<;>intro h2
  ·simp at h2;rw[aC (by omega)];simp[he]
  ·simp at h2;rw[aB (by omega)];refine gQ (FH t (P7 t (by omega))) ?_;simp;apply gM<;>intro h3
   ·simp at h3;simp[h3,he]
   ·simp at h3;simp[h3]<;>(rw[gT.enc_eq];simp[D.er])
 ·simp at h1;rw[aC (by omega)];simp[he]
def zi(t:gT):Bool:=decide ((DC t).2=0)&&kg (DC t).1 t
theorem zzM(t:gT):gU Pg 61 [.agg t.enc] (.one (.bool (zi t))):=by
 refine zyk (by simp) λo c hN hp=>?_;unfold Yx zi;simp;refine gQ (AU t) ?_;simp;apply gM<;>intro h
 ·simp at h;refine gQ (Jf _ t) ?_;simp[h]
 ·simp at h;simp[h]
theorem gU.erdV{P:Program}{f:FuncId}{args:List DV}{v v':DV}(h:gU P f args v)(e:v.erd=v'):gU P f args v':=by
 subst e;refine⟨h.1,λph w us hp hG r=>(h.2 ph w us hp hG r).mono λe w' q=>?_⟩;obtain⟨vC,h',q1,q2,q3,q4,q5,q6,q7,q8⟩:=q;exact⟨vC,h',q1,q2,q3,q4,q5,q6,q7,kL.erd q8⟩
abbrev P8:Blk:=.box [.msl 1 1 0 6,.d (.sl true 2 []),.d (.sl true 1 []),.d (.sl true 5 []),.d (.sl true 5 [])]
def pU(k:Int):gT:=.mk k (bs []) [] []
theorem AB:∀l:List fE,D.erdE (encS l)=encS l
|[]=>rfl
|s::l=>by
 have ih:=AB l;simp only[encS,List.map_cons,D.erdE,D.erdL,D.erd]at ih⊢;rw[ih]
mutual
theorem gT.erdL:∀t:gT,D.erdL t.enc=t.enc
|.mk k n s l=>by
 simp only[gT.enc,D.erdL,D.erd,AB,gT.erdE l]
theorem gT.erdE:∀l:List gT,D.erdE (gT.encs l)=gT.encs l
|[]=>rfl
|t::l=>by simp only[gT.encs,D.erdE,gT.erdL t,gT.erdE l]
end
def lit(k:Int)(l:List (List D)):List D:=[.int .i64 k,.str (bs []),.sl true 1 [],.sl true 4 l]
def wC(op:Bool)(k:gT)(s:fE):gT × Bool:=
 if 0<=fi (λx=>decide (s=x)) 0 k.names then(k.kids.getD (fi (λx=>decide (s=x)) 0 k.names).toNat (pU 0),true)else(pU 0,op)
theorem P9{α:Type}(q:α->Bool):∀(l:List α) (j:Nat),fi q j l<(j+l.length:Nat)
|[],j=>by simp[fi];omega
|x::l,j=>by
 rw[fi];split
 ·simp;omega
 ·have:=P9 q l (j+1);simp at this⊢;omega
mutual
def jD:gT->Prop
|.mk k nm s l=>nm=bs []/\lL l/\((0<=k/\k<=4/\s=[]/\l=[])\/(k=5/\s.length=l.length/\s.Pairwise jl)\/(k=6/\s=[]/\l.length=2)\/(k=7/\s=[]/\2<=l.length/\(l.map iH).Pairwise (· < ·)/\∀x,x∈l->0<=iH x))
def lL:List gT->Prop
|[]=>True
|t::l=>jD t/\lL l
end
theorem zQ:∀l:List gT,lL l↔∀x,x∈l->jD x
|[]=>by simp[lL]
|t::l=>by simp[lL,zQ l]
theorem ll(t:gT):jD t↔t.name=bs []/\(∀x,x∈t.kids->jD x)/\((0<=t.kind/\t.kind<=4/\t.names=[]/\t.kids=[])\/(t.kind=5/\t.names.length=t.kids.length/\t.names.Pairwise jl)\/(t.kind=6/\t.names=[]/\t.kids.length=2)\/(t.kind=7/\t.names=[]/\2<=t.kids.length/\(t.kids.map iH).Pairwise (· < ·)/\∀x,x∈t.kids->0<=iH x)):=by
 cases t;simp only[jD,zQ,gT.kind,gT.name,gT.names,gT.kids]
mutual
def jE:gT->Nat
|.mk _ _ _ l=>ja l+1
def ja:List gT->Nat
|[]=>0
|t::l=>max (jE t) (ja l)
end
theorem BQ:∀{l:List gT} {x:gT},x∈l->jE x<=ja l
|t::l,x,h=>by
 rw[ja];rcases aN.1 h with rfl|h
 ·omega
 ·have:=BQ h;omega
theorem wP{t x:gT}(h:x∈t.kids):jE x<jE t:=by
 cases t with
 |mk a b c l=>have:=BQ (l:=l) h;rw[jE];omega
end Go.Gr.P
namespace Go.Gr.P
open Go.Abs Go.Proofs List
theorem BR{k:gT}(h:jD k)(h7:k.kind≠7):(k.names.length=k.kids.length\/k.names=[])/\k.names.length<=k.kids.length/\(iH k=5->k.kids.length=2):=by
 have h:=((ll k).1 h).2.2;rcases h with⟨a,b,c,d⟩|⟨a,b,c⟩|⟨a,b,c⟩|⟨a,_⟩
 ·refine⟨.inr c,by rw[c];simp,λe=>?_⟩;unfold iH at e;split at e<;>omega
 ·refine⟨.inl b,by omega,λe=>?_⟩;unfold iH at e;split at e<;>omega
 ·exact⟨.inr b,by rw[b];simp,λ_=>c⟩
 ·exact absurd a h7
theorem zEQ:jD (pU 0):=by
 rw[ll];exact⟨rfl,(λx hx=>by cases hx),.inl ⟨by decide,by decide,rfl,rfl⟩⟩
theorem zS(t:gT):1<=jE t:=by cases t;rw[jE];omega
theorem Jl{l:List gT}{i:Nat}(h:i<l.length):l.getD i (pU 0)∈l:=by
 rw[aH,aA h];exact aR h
end Go.Gr.P
namespace Go.Gr.P
open Go.Abs Go.Proofs Go.Sort List
mutual
theorem Ch:∀(a b:gT),kg a b=true↔a=b
|.mk k n s l,.mk k' n' s' l'=>by
 simp only[kg,aF,aI,gT.mk.injEq];rw[FJ l l']
theorem FJ:∀(a b:List gT),qM a b=true↔a=b
|[],[]=>by simp[qM]
|[],_::_=>by simp[qM]
|_::_,[]=>by simp[qM]
|a::l,b::k=>by
 simp only[qM,aF,dZ];rw[Ch a b,FJ l k]
end
theorem zFe(xs:List (fE × gT)):(nV xs).map (·.1)=(kE (xs.map (·.1))).toList.map λi=>(xs.map (·.1)).getD i ⟨#[]⟩:=by
 unfold nV;rw[bi];refine bW λi _=>?_;simp only[Function.comp_apply,aH,getElem?_map];cases xs[i]?<;>rfl
theorem zDU(xs:List (fE × gT)):((nV xs).map (·.1)).Pairwise λa b=>¬jl b a:=by
 rw[zFe,pairwise_map];obtain⟨⟨h1,_⟩,h2⟩:=zkZ (xs.map (·.1));generalize xs.map (·.1)=ns at*
 simp only[Array.size_range]at h1 h2;rw[bn];intro i j hi hj hij;have:=h2 i j (dL _) hij (by simpa[h1]using hj);rw[Jh]at this;have hi':i<(kE ns).size:=by simpa using hi
 have hj':j<(kE ns).size:=by simpa using hj
 rw[getElem!_pos (kE ns) i hi',getElem!_pos (kE ns) j hj']at this;simpa using this
theorem zA8:∀l:List fE,(∀i (h:i+1<l.length),jl l[i] l[i+1])->l.Pairwise jl
|[],_=>by simp
|[a],_=>by simp
|a::b::l,h=>by
 have ih:=zA8 (b::l) λi hi=>h (i+1) (by simp only[length_cons]at hi⊢;omega);have hab:jl a b:=h 0 (by simp);refine List.Pairwise.cons (λc hc=>?_) ih;rcases aN.1 hc with rfl|hc
 ·exact hab
 ·exact zY hab (rel_of_pairwise_cons ih hc)
theorem zIR{l:List fE}(h:ru l=true){i:Nat}(hi:i+1<l.length):l[i]≠l[i+1]:=by
 unfold ru at h;rw[ai]at h;have:=h (i+1) (by simpa using hi);unfold qh at this;intro e;have hi':i<l.length:=by omega
 simp[aH,aA hi,aA hi',e]at this
theorem zIS(s:List fE)(l:List gT)(hl:∀x,x∈l->jD x)(h:(mU s l).2=true):jD (mU s l).1:=by
 unfold mU at h⊢;split at h
 ·cases h
 ·rename_i hc;rw[aB hc];split at h
  ·rename_i hd;rw[aC hd];rw[ll];refine⟨rfl,λx hx=>?_,.inr (.inl ⟨rfl,by simp[gT.names,gT.kids],?_⟩)⟩
   ·simp only[gT.kids,ae]at hx;obtain⟨y,hy,rfl⟩:=hx;have:=(P6 _).mem_iff.1 hy;exact hl _ (of_mem_zip (a:=y.1) (b:=y.2) this).2
   ·simp only[gT.names];refine zA8 _ λi hi=>?_;have h1:=zIR hd.2 hi;have h2:=(bn.1 (zDU (s.zip l))) i (i+1) (by omega) hi (by omega);exact(EF h1).resolve_right h2
  ·cases h
def G9(of:List (Option gT)):Prop:=∀(i:Nat) (k:gT),of[i]?=some (some k)->iH k=i/\jD k
theorem zH5{of:List (Option gT)}(h:G9 of){k:gT}(hk:jD k):G9 (qJ of k).2:=by
 unfold qJ;split
 ·exact h
 ·rename_i h0;split
  ·intro i m hm;simp only at hm;rw[getElem?_set]at hm;split at hm
   ·rename_i e;split at hm
    ·simp only[ah]at hm;subst hm;exact⟨by omega,hk⟩
    ·cases hm
   ·exact h i m hm
  ·exact h
theorem zzx:∀(l:List gT) {of:List (Option gT)},G9 of->(∀k,k∈l->jD k)->G9 (nU l of).2
|[],of,h,_=>h
|m::l,of,h,hl=>by
 rw[nU];split
 ·exact zzx l (zH5 h (hl m (by simp))) λk hk=>hl k (by simp[hk])
 ·exact h
theorem zzy:∀(of:List (Option gT)) (n:Nat),(∀(i:Nat) (k:gT),of[i]?=some (some k)->iH k=(n+i:Nat))->((of.filterMap id).map iH).Pairwise (· < ·)/\∀x,x∈of.filterMap id->(n:Int)<=iH x
|[],n,_=>by simp
| o::of,n,h=>by
 have ih:=zzy of (n+1) λi k hk=>by rw[h (i+1) k (by simpa using hk)];omega
 cases o with
 |none=>
  simp only[filterMap_cons,id];exact⟨ih.1,λx hx=>by have:=ih.2 x hx;omega⟩
 | some t=>
  have h0:=h 0 t (by simp);simp only[filterMap_cons,id];refine⟨List.Pairwise.cons (λy hy=>?_) ih.1,λx hx=>?_⟩
  ·obtain⟨x,hx,rfl⟩:=ae.1 hy;have:=ih.2 x hx;omega
  ·rcases aN.1 hx with rfl|hx
   ·omega
   ·have:=ih.2 x hx;omega
theorem zGR{of:List (Option gT)}{x:gT}(h:x∈of.filterMap id):∃i:Nat,of[i]?=some (some x):=by
 rw[mem_filterMap]at h;obtain⟨o,ho,e⟩:=h;simp only[id]at e;subst e;exact List.mem_iff_getElem?.1 ho
theorem zGS(l:List gT)(hl:∀x,x∈l->jD x)(h:(w9 l).2=true):jD (w9 l).1:=by
 have hm:∀m,m∈l.flatMap iX->jD m:=λm hm=>by
  obtain⟨k,hk,hmk⟩:=eO.1 hm;have hw:=hl k hk;unfold iX at hmk;split at hmk
  ·exact((ll k).1 hw).2.1 m hmk
  ·rw[aL]at hmk;rw[hmk];exact hw
 have h0:G9 zh:=λi k hk=>by
  exfalso;unfold zh at hk
  match i,hk with
  |0,q|1,q|2,q|3,q|4,q|5,q=>simp at q
  |i+6,q=>simp at q
 have hw:=zzx _ h0 hm;unfold w9 at h⊢;generalize nU (l.flatMap iX) zh=p at*
 obtain⟨b,of⟩:=p;cases b with
 |false=>cases h
 | true=>
  simp only at h hw⊢;have ht:=zzy of 0 λi k hk=>by rw[(hw i k hk).1];omega
  have hmem:∀x,x∈of.filterMap id->jD x:=λx hx=>by
   obtain⟨i,hi⟩:=zGR hx;exact(hw i x hi).2
  generalize of.filterMap id=L at*
  rcases L with _|⟨t,_|⟨t',L⟩⟩
  ·simp at h
  ·exact hmem t (by simp)
  ·simp only;rw[ll];exact⟨rfl,hmem,.inr (.inr (.inr ⟨rfl,rfl,by simp[gT.kids],ht.1,λx hx=>by have:=ht.2 x hx;omega⟩))⟩
mutual
theorem zCW:∀t:gT,(lS t).2=true->jD (lS t).1
| .mk k n s l,h=>by
 rw[lS]at h⊢;by_cases h5:5<=k/\k<=7
 ·rw [aC h5]at h⊢;by_cases hs:(lu l).2=true
  ·rw[aC hs]at h⊢;have ih:=zA9 l hs;unfold wB at h⊢;by_cases k5:k=5
   ·rw[aC k5]at h⊢;exact zIS s _ ih h
   ·by_cases k6:k=6
    ·rw[aB k5,aC k6]at h⊢;rw[ll];exact⟨rfl,ih,.inr (.inr (.inl ⟨rfl,rfl,by simp only[aI]at h;exact h⟩))⟩
    ·rw[aB k5,aB k6]at h⊢;exact zGS _ ih h
  ·rw[aB hs]at h;cases h
 ·rw[aB h5]at h⊢;by_cases h0:0<=k/\k<=4
  ·rw[aC h0];rw[ll];exact⟨rfl,(λx hx=>by cases hx),.inl ⟨h0.1,h0.2,rfl,rfl⟩⟩
  ·rw[aB h0]at h;cases h
theorem zA9:∀l:List gT,(lu l).2=true->∀x,x∈(lu l).1->jD x
|[],_,x,hx=>by rw[lu]at hx;cases hx
| t::l,h,x,hx=>by
 rw[lu]at h hx;by_cases ht:(lS t).2=true
 ·rw[aC ht]at h hx;rcases aN.1 hx with rfl|hx
  ·exact zCW t ht
  ·exact zA9 l h x hx
 ·rw[aB ht]at h;cases h
end
theorem zBa{t:gT}(h:zi t=true):jD t/\kr t:=by
 unfold zi DC at h;split at h
 ·simp at h
 ·rename_i hs;split at h
  ·rename_i hn;simp only[decide_true,Bool.true_and,Ch]at h;have:=zCW t hn;rw[h]at this;exact⟨this,P7 t (by omega)⟩
  ·simp at h
end Go.Gr.P
namespace Go.Gr.P
open Go.Abs Go.Proofs
end Go.Gr.P
namespace Go.Gr.P
open Go.Abs Go.Proofs List
def nE(i:Nat):gT:=.mk (i+1) (bs []) [] (if i=5 then [pU 0,pU 0]else [])
def qi(t:gT)(i:Nat):Option gT:=(if t.kind=7 then t.kids else [t]).find? λx=>decide (iH x=i)
def kP(t:gT)(i:Nat):Option gT:=if t.kind=0 then some (nE i)else qi t i
def kd(t:gT)(j:Nat):gT:=t.kids.getD j (pU 0)
def qH(p:Int):Int:=if p%2=0 then p+1 else p-1
def uz(lo op:Bool)(m k:gT):List fE:=if op=true then m.names else if lo=true then k.names else k.names.filter λs=>decide (s∈m.names)
def kidO(t:gT)(s:fE):gT:=(wC false t s).1
def qj(lb:Int)(m k:gT):List (fE × Int):=(k.names.filter λs=> !decide (s∈m.names)).map λs=>(s,lb)
def ql(v:gT->gT->Int->gY)(lo op:Bool)(m k:gT)(p:Int):List (fE × gY):=busy ((uz lo op m k).map λs=>(s,v (kidO m s) (kidO k s) p))
def uf(a b:gT)(p:Int)(i:Nat):Int:=match kP a i,kP b i with
|some _,none=>p
|_,_=>0
def x9(a b:gT)(p:Int):List (fE × Int):=match kP a 4,kP b 4 with
|some m,some k=>qj p m k
|_,_=>[]
def qo(v:gT->gT->Int->gY)(a b:gT)(p:Int):List (fE × gY):=match kP a 4,kP b 4 with
|some m,some k=>ql v (decide (a.kind=0)) (decide (b.kind=0)) m k p
|_,_=>[]
def wh(v:gT->gT->Int->gY)(a b:gT)(p:Int):List gY:=match kP a 5,kP b 5 with
|some m,some k=>nC (v (kd k 0) (kd m 0) (qH p)) (v (kd m 1) (kd k 1) p)
|_,_=>[]
def kw(a b:gT)(p:Int):List Int:=[uf a b p 0,uf a b p 1,uf a b p 2,uf a b p 3,uf a b p 4,uf a b p 5]
def qp(v:gT->gT->Int->gY)(a b:gT)(p:Int):gY:=
 if a.kind=0/\b.kind=0 then idC else .mk (kw a b p) (x9 a b p) ((qo v a b p).map (·.1)) ((qo v a b p).map (·.2)) (wh v a b p)
def tN:Nat->gT->gT->Int->gY
|0,_,_,_=>idC
|n+1,a,b,p=>qp (tN n) a b p
def mq(t:gT):Prop:=jD t/\kr t
theorem Pb:mq (pU 0):=⟨zEQ,by rw[Jk];exact⟨by simp[pU,gT.kids],λx hx=>by cases hx⟩⟩
theorem Pd{t x:gT}(h:mq t)(hx:x∈t.kids):mq x:=⟨((ll t).1 h.1).2.1 x hx,((Jk t).1 h.2).2 x hx⟩
theorem zH9{t:gT}(h:mq t){i:Nat}{k:gT}(hk:qi t i=some k):iH k=i/\mq k/\k.kind≠7/\∀x,x∈k.kids->jE x<jE t:=by
 unfold qi at hk;have h1:=find?_some hk;have h2:=eU hk;simp only[aI]at h1;have h7:k.kind≠7:=λe=>by
  unfold iH at h1;rw[aC (by omega)]at h1;omega
 split at h2
 ·exact⟨h1,Pd h h2,h7,λx hx=>Nat.lt_trans (wP hx) (wP h2)⟩
 ·rw[aL]at h2;subst h2;exact⟨h1,h,h7,λx hx=>wP hx⟩
theorem zIa{i:Nat}(hi:i<6):iH (nE i)=i/\mq (nE i)/\(nE i).kind≠7/\∀x,x∈(nE i).kids->x=pU 0:=by
 have hx:∀x,x∈(nE i).kids->x=pU 0:=λx hx=>by
  simp only[nE,gT.kids]at hx;split at hx<;>simp at hx;exact hx
 refine⟨?_,⟨?_,?_⟩,?_,hx⟩
 ·show(if((i:Int)+1<1\/6<(i:Int)+1)then(-1:Int)else(i:Int)+1-1)=i;rw[aB (by omega)];omega
 ·rw[ll];refine⟨rfl,λx h=>by rw[hx x h];exact zEQ,?_⟩;by_cases h5:i=5
  ·subst h5;exact .inr (.inr (.inl ⟨rfl,rfl,rfl⟩))
  ·by_cases h4:i=4
   ·subst h4;exact .inr (.inl ⟨rfl,rfl,by simp[nE,gT.names]⟩)
   ·refine .inl ⟨?_,?_,rfl,?_⟩
    ·simp only[nE,gT.kind];omega
    ·simp only[nE,gT.kind];omega
    ·simp[nE,gT.kids,h5]
 ·rw[Jk];refine⟨?_,λx h=>by rw[hx x h];exact Pb.2⟩;simp only[nE,gT.kids];split<;>simp
 ·simp only[nE,gT.kind];omega
theorem Bi{t:gT}(h:mq t){i:Nat}(hi:i<6){k:gT}(hk:kP t i=some k):iH k=i/\mq k/\k.kind≠7/\∀x,x∈k.kids->(t.kind=0/\x=pU 0)\/(t.kind≠0/\jE x<jE t):=by
 unfold kP at hk;split at hk
 ·rename_i h0;simp only[ah]at hk;subst hk;obtain⟨a1,a2,a3,a4⟩:=zIa hi;exact⟨a1,a2,a3,λx hx=>.inl ⟨h0,a4 x hx⟩⟩
 ·rename_i h0;obtain⟨a1,a2,a3,a4⟩:=zH9 h hk;exact⟨a1,a2,a3,λx hx=>.inr ⟨h0,a4 x hx⟩⟩
theorem zGY{k:gT}(s:fE):kidO k s∈k.kids\/kidO k s=pU 0:=by
 unfold kidO wC;split
 ·simp only;by_cases q:(fi (λx=>decide (s=x)) 0 k.names).toNat<k.kids.length
  ·rw[aH,aA q];exact .inl (aR q)
  ·rw[aH,aS (by omega)];exact .inr rfl
 ·exact .inr rfl
theorem zIX(k:gT)(j:Nat):kd k j∈k.kids\/kd k j=pU 0:=by
 unfold kd;by_cases q:j<k.kids.length
 ·exact .inl (Jl q)
 ·rw[aH,aS (by omega)];exact .inr rfl
theorem zzB{k:gT}(h:mq k)(s:fE):mq (kidO k s):=by
 rcases zGY (k:=k) s with q|q
 ·exact Pd h q
 ·rw[q];exact Pb
theorem Jm{k:gT}(h:mq k)(j:Nat):mq (kd k j):=by
 rcases zIX k j with q|q
 ·exact Pd h q
 ·rw[q];exact Pb
theorem Aq{k:gT}(h:mq k):k.names.Pairwise jl/\k.names.length<=k.kids.length/\k.names.length<=200:=by
 have h2:=((Jk k).1 h.2).1;rcases((ll k).1 h.1).2.2 with q|q|q|q
 ·rw[q.2.2.1];simp
 ·exact⟨q.2.2,by omega,by omega⟩
 ·rw[q.2.1];simp
 ·rw[q.2.1];simp
theorem zCk{lo op:Bool}{m k:gT}:(uz lo op m k).Sublist m.names\/(uz lo op m k).Sublist k.names:=by
 unfold uz;split
 ·exact .inl (List.Sublist.refl _)
 ·split
  ·exact .inr (List.Sublist.refl _)
  ·exact .inr filter_sublist
theorem zz9{lo op:Bool}{m k:gT}(hm:mq m)(hk:mq k):(uz lo op m k).Pairwise jl/\(uz lo op m k).length<=200:=by
 rcases zCk (lo:=lo) (op:=op) (m:=m) (k:=k)with q|q
 ·exact⟨(Aq hm).1.sublist q,ak q.length_le (Aq hm).2.2⟩
 ·exact⟨(Aq hk).1.sublist q,ak q.length_le (Aq hk).2.2⟩
theorem zBk{α:Type}(q:α->Bool):∀(l:List α) (i:Nat) {j:Nat} (hj:j<l.length),q l[j]=true->(∀j' (h:j'<l.length),j'<j->q l[j']=false)->fi q i l=(i+j:Nat)
|x::l,i,0,_,h,_=>by
 rw[fi,aC (by simpa using h)];try rfl
|x::l,i,j+1,hj,h,hb=>by
 have h0:=hb 0 (by simp) (by omega);simp only[getElem_cons_zero]at h0;rw[fi,aB (by simp[h0]),zBk q l (i+1) (j:=j) (by simpa using hj) (by simpa using h) λj' h' hlt=>by have:=hb (j'+1) (by simpa using h') (by omega);simpa only[getElem_cons_succ]using this];omega
theorem zIY{l:List fE}(hn:l.Nodup){j:Nat}(hj:j<l.length):fi (λx=>decide (l[j]=x)) 0 l=(j:Nat):=by
 have:=zBk (λx=>decide (l[j]=x)) l 0 hj (by simp) λj' h' hlt=>by
  simp only[bf];intro e;exact(bn.1 hn) j' j h' hj hlt e.symm
 simpa using this
theorem zBl{k:gT}(hn:k.names.Nodup){j:Nat}(hj:j<k.names.length)(hj':j<k.kids.length):kidO k k.names[j]=k.kids[j]:=by
 unfold kidO wC;rw[zIY hn hj,aC (by omega)];simp[aH,hj']
theorem Pe{l:List fE}{s:fE}:0<=fi (λx=>decide (s=x)) 0 l↔s∈l:=by
 rw[<-decide_eq_true_iff (p:=0<=fi (λx=>decide (s=x)) 0 l),PR,any_eq_true];constructor
 ·rintro⟨x,hx,e⟩
  simp only[aI]at e;rw[e];exact hx
 ·intro h;exact⟨s,h,by simp⟩
theorem Jn{k:gT}{s:fE}(h:s∉k.names):kidO k s=pU 0:=by
 unfold kidO wC;rw[aB (λe=>h (Pe.1 e))]
theorem zG0{k:gT}(h:k.names=[])(s:fE):kidO k s=pU 0:=Jn (by rw[h];simp)
end Go.Gr.P
namespace Go.Gr.P
open Go.Abs Go.Proofs
theorem zCI{k:gT}(g:mq k){s:fE}(h:s∈k.names):kidO k s∈k.kids:=by
 have h0:=Pe.2 h;have h1:=P9 (λx=>decide (s=x)) k.names 0;have h2:=(Aq g).2.1;unfold kidO wC;rw[aC h0];simp only;exact Jl (by omega)
end Go.Gr.P
namespace Go.Gr.P
open Go.Abs Go.Proofs List
abbrev tq(T:List Int):Blk:=.arr 1 ((encI T).map (·.map .d))
theorem zDy(b f:D)(T:List Int)(hT:T.length=6)(l:List (fE × gY))(hn:(l.map (·.1)).Nodup)(hl:l.length<=1073741824):
  MCall Pg 105 [.c (.ptr 0 0),.c (.map 1)] [.box [.msl 1 2 0 6,.d b,.d (.sl true 1 []),.d (.sl true 5 []),.d f],.map (iK l),tq T] (.tup [])
   [.box [.msl 1 2 0 6,.d b,.msl 1 3 0 (kN l (zco (l.map (·.1)))).length,.msl 5 4 0 (kN l (zco (l.map (·.1)))).length,.d f],.map (iK l),tq T,
    .arr 1 ((encS ((kN l (zco (l.map (·.1)))).map (·.1))).map (·.map .d)),.arr 5 (((kN l (zco (l.map (·.1)))).map (·.2.enc)).map (·.map .d))]:=by
 refine ZK ⟨by simp,by simp,by simp,by simp,by simp,by simp,by simp[live];exact Jc⟩ λts hts ok hb c hN hp=>?_;obtain⟨t0,t1,t2,rfl⟩:∃t u v,ts=[t,u,v]:=by
  match ts,hts with
  |[t,u,v],_=>exact⟨t,u,v,rfl⟩
 unfold Om;simp;refine fU [.c 0 2,.c 0 3] ?_;simp;refine gP [1] (zAh l) (by simp;exactλa b h=>qg h) ?_;simp;refine gP [1,8] (zxK l hn hl) (by simp;exactλa b h=>qg h) ?_;simp;have hks:(zco (l.map (·.1))).length<=1073741824:=by simpa[zco]using hl
 have hmem:∀k,k∈zco (l.map (·.1))->k∈l.map (·.1):=λk hk=>JA.1 hk;generalize zco (l.map (·.1))=ks at*
 refine fP gy hp EK [11] (λj:Nat=>j<=ks.length) (λj=>[.c (.d (.int .i64 j))])
  (λj=>[.box [.msl 1 2 0 6,.d b,.msl 1 3 0 (kN l (ks.take j)).length,.msl 5 4 0 (kN l (ks.take j)).length,.d f],.map (iK l),tq T,.arr 1 ((encS ((kN l (ks.take j)).map (·.1))).map (·.map .d)),.arr 5 (((kN l (ks.take j)).map (·.2.enc)).map (·.map .d)),.pin t0 0,.pin t1 1,.pin t2 2])
  (λj=>ks.length-j) 0 [0,1,2,6,7,3,4,5] (by simp) (by simp[EK,kN,encS];exactλa b h=>qg h) λj h1=>?_
 unfold Ol EK;simp;apply gM<;>intro h
 ·have hj:j<ks.length:=by simpa using h
  simp[aA hj];obtain⟨i,hi⟩:=GY (l:=l) 0 (hmem _ (aR hj));simp[hi];refine gQ (yD _) ?_;have hs:=XY (l:=l) hj;have hlen:=XZ l (ks.take j);rw[bI]at hlen;generalize rZ l ks[j]=d at hs⊢;simp;apply gM<;>intro h
  ·simp at h;rw[h]at hs;simp at hs;refine⟨by omega,by omega,by decide,?_⟩;refine fF (j+1) [0,1,2,9,10,5,6,7] (by omega) (by omega) ?_;simp[hs];refine⟨wI,λa b h=>qg h,?_,?_⟩
   ·rw[aG (by simp)]<;>simp[encS]
   ·rw[aG (by simp)]
  ·simp at h;rw[h]at hs;simp at hs;refine fF (j+1) [0,1,2,3,4,5,6,7] (by omega) (by omega) ?_;simp[hs];exact⟨wI,λa b h=>qg h⟩
 ·have hj:j=ks.length:=by simp at h;omega
  subst hj;simp;exact fK [0,1,2,3,4] [5,6,7]
theorem zHU(b s x:D)(T:List Int)(hT:T.length=6)(f g:gY):MCall Pg 99 [.c (.ptr 0 0),.ag (f.enc.map .d),.ag (g.enc.map .d)] [.box [.msl 1 1 0 6,.d b,.d s,.d x,.d (.sl true 5 [])],tq T] (.tup []) [.box [.msl 1 1 0 6,.d b,.d s,.d x,.d (.sl true 5 ((nC f g).map gY.enc))],tq T]:=by
 refine ZG lZ λts hts ok hb c hN hp=>?_;obtain⟨t,u,rfl⟩:=F4 hts;unfold Oi;simp;refine gQ (yD f) ?_;simp;apply gM<;>intro h2
 ·simp at h2;refine gQ (yD g) ?_;simp;apply gM<;>intro h3
  ·simp at h3;exact fM [0,1] [2,3] (by simp[nC,h2,h3])
  ·simp at h3;exact fM [0,1] [2,3] (by simp[nC,h2,h3])
 ·simp at h2;exact fM [0,1] [2,3] (by simp[nC,h2])
def nG(v:fE->gY)(ks:List fE):List (fE × gY):=ks.map λs=>(s,v s)
theorem Jo(v:fE->gY)(ks:List fE):(nG v ks).map (·.1)=ks:=by simp[nG,Function.comp_def]
theorem Pf(v:fE->gY)(a b:List fE):nG v (a++b)=nG v a++nG v b:=by simp[nG]
theorem zCK{v:fE->gY}:∀{ks:List fE} {s:fE},s∈ks->rZ (nG v ks) s=v s
| x::ks,s,h=>by
 simp only[nG,map_cons,rZ];split
 ·rename_i e;rw[e]
 ·rename_i e;exact zCK (v:=v) ((aN.1 h).resolve_left e)
theorem zGr{v:fE->gY}{ks:List fE}(h:ks.Pairwise jl):kN (nG v ks) (zco ((nG v ks).map (·.1)))=busy (nG v ks):=by
 rw[Jo];have e:zco ks=ks:=X3 (X4 (sG h)) h λx=>JA;rw[e];unfold kN busy;congr 1;exact bW λs hs=>by rw[zCK hs]
theorem Ph(a b:List (fE × gY)):iK (a++b)=iK a++iK b:=by simp[iK]
theorem zGs{t:gT}{lb:Int}{d:gY}(h:gU Pg 62 [.agg t.enc,.agg (pU 0).enc,.one (.int .i64 lb)] (.agg d.enc)):gU Pg 62 [.agg t.enc,.agg [.int .i64 0,.str (bs []),.sl true 1 [],.sl true 4 []],.one (.int .i64 lb)] (.agg d.enc):=
 gU.erd h (by simp[DV.erds,DV.erd,gT.erdL,D.erdL,D.erd,D.erdE,pU,gT.enc,gT.encs,encS])
theorem zGt{t:gT}{lb:Int}{d:gY}(h:gU Pg 62 [.agg (pU 0).enc,.agg t.enc,.one (.int .i64 lb)] (.agg d.enc)):gU Pg 62 [.agg [.int .i64 0,.str (bs []),.sl true 1 [],.sl true 4 []],.agg t.enc,.one (.int .i64 lb)] (.agg d.enc):=
 gU.erd h (by simp[DV.erds,DV.erd,gT.erdL,D.erdL,D.erd,D.erdE,pU,gT.enc,gT.encs,encS])
abbrev Jp(m k:gT)(lo:Bool)(p:Int):List (Nat × AV):=[(0,.c (.ptr 0 0)),(3,.c (.d (.bool lo))),(5,.c (.d (.int .i64 p))),(7,.c (.d (.rp m.enc 0))),(8,.c (.d (.rp k.enc 0))),(12,.c (.map 4))]
abbrev DD(nd:AC):Blk:=.box [.msl 1 1 0 6,nd,.d (.sl true 1 []),.d (.sl true 5 []),.d (.sl true 5 [])]
theorem Pi{c:Ctx}(hp:c.pure)(V:fE->gY)(m k:gT)(hm:mq m)(lo:Bool)(lb:Int)(T:List Int)(hT:T.length=6)(t0 t1:Nat × Nat)
  (H:∀s,s∈m.names->gU Pg 62 [.agg (kidO m s).enc,.agg (pU 0).enc,.one (.int .i64 lb)] (.agg (V s).enc)) {Q:Exit->St->Prop} {S:St} {g} {ms:List Nat}
  (h0:iM ms S ((23,.c (.d (.int .i64 0)))::(21,.c (.d (.sl false 1 (encS m.names))))::(22,.c (.d (.int .i64 m.names.length)))::Jp m k lo lb) [DD (.d (.sl true 2 [])),tq T,.pin t0 0,.pin t1 1,.map (iK [])])
  (hQ:∀T',Abs.look T' 0=.c (.ptr 0 0)->Abs.look T' 3=.c (.d (.bool lo))->Abs.look T' 5=.c (.d (.int .i64 lb))->Abs.look T' 7=.c (.d (.rp m.enc 0))->Abs.look T' 8=.c (.d (.rp k.enc 0))->Abs.look T' 12=.c (.map 4)->
   Q (.exit 0) ⟨T',hpOf [DD (.d (.sl true 2 [])),tq T,.pin t0 0,.pin t1 1,.map (iK (nG V m.names))],5⟩):mW Pg c O9 Q g S:=by
 have hnm:=Aq hm;have hnd:=sG hnm.1
 refine fO gy hp (λj:Nat=>j<=m.names.length) (λj=>(23,.c (.d (.int .i64 j)))::(21,.c (.d (.sl false 1 (encS m.names))))::(22,.c (.d (.int .i64 m.names.length)))::Jp m k lo lb)
  (λj=>[DD (.d (.sl true 2 [])),tq T,.pin t0 0,.pin t1 1,.map (iK (nG V (m.names.take j)))])
  (λj=>m.names.length-j) 0 ms (by simp) (by simpa[nG]using h0) λj h1=>?_
 unfold O9;simp;apply gM<;>intro h
 ·have hj:j<m.names.length:=by simpa using h
  have hj':j<m.kids.length:=by omega
  have hc:=H _ (aR hj);rw[zBl hnd hj hj']at hc;simp[aA hj,aA hj'];refine gQ (zGs hc) ?_;have hk:m.names[j]∉(nG V (m.names.take j)).map (·.1):=by rw[Jo];exact EG hnd hj
  simp[EM 0 hk];refine fF (j+1) [0,1,2,3,4] (by omega) (by omega) ?_;simp;refine⟨wI,?_,λa b h=>qg h⟩;rw[aJ hj,Pf,Ph];simp[nG,iK]
 ·have hj:j=m.names.length:=by simp at h;omega
  subst hj;rw[bO];exact hQ _ (by simp) (by simp) (by simp) (by simp) (by simp) (by simp)
def tO(lo:Bool)(m:gT)(ks:List fE):List fE:=ks.filter λs=>lo||decide (s∈m.names)
def lw(m:gT)(ks:List fE):List fE:=ks.filter λs=> !decide (s∈m.names)
theorem Ga{c:Ctx}(hp:c.pure)(V:fE->gY)(m k:gT)(hm:mq m)(hk:mq k)(lo:Bool)(hlo:lo=true->m.names=[])(lb:Int)(T:List Int)(hT:T.length=6)(t0 t1:Nat × Nat)(l0:List (fE × gY))(hl0:k.names≠[]->l0=[])
  (H:∀s,s∈tO lo m k.names->gU Pg 62 [.agg (kidO m s).enc,.agg (kidO k s).enc,.one (.int .i64 lb)] (.agg (V s).enc)) {Q:Exit->St->Prop} {S:St} {g} {ms:List Nat}
  (h0:iM ms S ((42,.c (.d (.int .i64 0)))::(40,.c (.d (.sl false 1 (encS k.names))))::(41,.c (.d (.int .i64 k.names.length)))::Jp m k lo lb) [DD (.msl 2 5 0 0),tq T,.pin t0 0,.pin t1 1,.map (iK l0),.arr 2 []])
  (hQ:∀T',Abs.look T' 0=.c (.ptr 0 0)->Abs.look T' 12=.c (.map 4)->
   Q (.exit 2) ⟨T',hpOf [DD (.msl 2 5 0 (lw m k.names).length),tq T,.pin t0 0,.pin t1 1,.map (iK (l0++nG V (tO lo m k.names))),.arr 2 ((iI ((lw m k.names).map λs=>(s,lb))).map (·.map .d))],6⟩):mW Pg c Oa Q g S:=by
 have hnm:=Aq hm;have hnk:=Aq hk;have hnd:=sG hnk.1
 refine fO gy hp (λj:Nat=>j<=k.names.length) (λj=>(42,.c (.d (.int .i64 j)))::(40,.c (.d (.sl false 1 (encS k.names))))::(41,.c (.d (.int .i64 k.names.length)))::Jp m k lo lb)
  (λj=>[DD (.msl 2 5 0 (lw m (k.names.take j)).length),tq T,.pin t0 0,.pin t1 1,.map (iK (l0++nG V (tO lo m (k.names.take j)))),.arr 2 ((iI ((lw m (k.names.take j)).map λs=>(s,lb))).map (·.map .d))])
  (λj=>k.names.length-j) 0 ms (by simp) (by simpa[nG,tO,lw,iI]using h0) λj h1=>?_
 unfold Oa;simp;apply gM<;>intro h
 ·have hj:j<k.names.length:=by simpa using h
  have hj':j<k.kids.length:=by omega
  have e0:l0=[]:=hl0 λe=>by rw[e]at hj;simp at hj
  subst e0;have hc:=H k.names[j];rw[zBl hnd hj hj']at hc;have hidx:=zlP m.names k.names[j];have hmem:=Pe (l:=m.names) (s:=k.names[j]);have hlt:=P9 (λx=>decide (k.names[j]=x)) m.names 0;have hkid:∀(n:Nat),fi (λx=>decide (k.names[j]=x)) 0 m.names=n->n<m.kids.length->kidO m k.names[j]=m.kids.getD n (pU 0):=λn e hn=>by
   unfold kidO wC;rw[e,aC (by omega)];try rfl
  have hnk:k.names[j]∉(nG V (tO lo m (k.names.take j))).map (·.1):=by
   rw[Jo];exactλh=>EG hnd hj (bD.1 h).1
  have htk:k.names.take (j+1)=k.names.take j++[k.names[j]]:=aJ hj;have hin:k.names[j]∈tO lo m k.names↔lo=true\/k.names[j]∈m.names:=by
   unfold tO;rw[bD];simp[aR hj]
  have hol:(lw m (k.names.take j)).length<=200:=by
   unfold lw;have:=bS (λs=> !decide (s∈m.names)) (k.names.take j);simp only[bI]at this;omega
  simp[aA hj,aA hj'];refine gQ hidx ?_;generalize hz:fi (λx=>decide (k.names[j]=x)) 0 m.names=z at*
  by_cases hs:k.names[j]∈m.names
  ·have hz0:=hmem.2 hs;obtain⟨n,rfl⟩:∃n:Nat,z=n:=⟨z.toNat,by omega⟩
   have hn:n<m.kids.length:=by omega
   have hc:=hc (hin.2 (.inr hs));rw[hkid n rfl hn,aH,aA hn]at hc;simp only[Option.getD_some]at hc;have ho:lw m (k.names.take (j+1))=lw m (k.names.take j):=by unfold lw;rw[htk,dH];simp[hs]
   have hi:tO lo m (k.names.take (j+1))=tO lo m (k.names.take j)++[k.names[j]]:=by unfold tO;rw[htk,dH];simp[hs]
   have hneg:¬((n:Int)<0):=by omega
   simp[hneg,aA hn,aA hj'];refine gQ hc ?_;simp[EM 0 hnk];refine⟨by decide,?_⟩;refine fF (j+1) [0,1,2,3,4,5] (by omega) (by omega) ?_;rw[ho,hi,Pf,Ph];simp;exact⟨wI,by simp[nG,iK],λa b h=>qg h,λa b h=>qg h⟩
  ·have hz0:¬0<=z:=λe=>hs (hmem.1 e);have hneg:z<0:=by omega
   have hge:¬z≥0:=hz0;have ho:lw m (k.names.take (j+1))=lw m (k.names.take j)++[k.names[j]]:=by unfold lw;rw[htk,dH];simp[hs]
   cases lo with
   |true=>
    have hc:=hc (hin.2 (.inl rfl));rw[Jn hs]at hc;have hi:tO true m (k.names.take (j+1))=tO true m (k.names.take j)++[k.names[j]]:=by unfold tO;rw[htk,dH];simp
    simp[hneg,hge,aA hj'];refine⟨by omega,?_⟩;refine gQ (zGt hc) ?_;simp[EM 0 hnk];refine fF (j+1) [0,1,2,3,4,6] (by omega) (by omega) ?_;rw[ho,hi,Pf,Ph];simp;refine⟨wI,⟨by simp[nG,iK],λa b h=>qg h,λa b h=>qg h⟩,?_⟩;rw[aG (by simp[iI])];simp[iI]
   |false=>
    have hi:tO false m (k.names.take (j+1))=tO false m (k.names.take j):=by unfold tO;rw[htk,dH];simp[hs]
    simp[hneg,hge];refine⟨by omega,?_⟩;refine fF (j+1) [0,1,2,3,4,6] (by omega) (by omega) ?_;rw[ho,hi];simp;refine⟨wI,λa b h=>qg h,?_⟩;rw[aG (by simp[iI])];simp[iI]
 ·have hj:j=k.names.length:=by simp at h;omega
  subst hj;rw[bO];exact hQ _ (by simp) (by simp)
theorem zET(v:gT->gT->Int->gY)(lo op:Bool)(m k:gT)(p:Int):ql v lo op m k p=busy (nG (λs=>v (kidO m s) (kidO k s) p) (uz lo op m k)):=rfl
theorem zAE{c:Ctx}(V:fE->gY)(m k:gT)(ks:List fE)(hks:ks.Pairwise jl)(hkl:ks.length<=200)(nd:List (fE × Int))(hnd:nd.length<=200)(T:List Int)(hT:T.length=6)(t0 t1:Nat × Nat)(T':List (Nat × AV))(e0:Abs.look T' 0=.c (.ptr 0 0))(e12:Abs.look T' 12=.c (.map 4)):
  w_ Pg c (.fzq (.reg [⟨none,some 95,.mv (.t 0)⟩,⟨none,some 96,.mv (.t 12)⟩,⟨none,some 97,.callM 105 [(.t 95),(.t 96)]⟩]))
   (xA [] (.tup []) [.box [.msl 1 1 0 6,.d (.sl false 2 (iI nd)),.msl 1 2 0 (busy (nG V ks)).length,.msl 5 3 0 (busy (nG V ks)).length,.d (.sl true 5 [])],tq T,.arr 1 ((encS ((busy (nG V ks)).map (·.1))).map (·.map .d)),.arr 5 (((busy (nG V ks)).map (·.2.enc)).map (·.map .d))] [t0,t1]) ⟨⟩
   ⟨T',hpOf [DD (.msl 2 5 0 nd.length),tq T,.pin t0 0,.pin t1 1,.map (iK (nG V ks)),.arr 2 ((iI nd).map (·.map .d))],6⟩:=by
 have hf:=zDy (.sl false 2 (iI nd)) (.sl true 5 []) T hT (nG V ks) (by rw[Jo];exact sG hks) (by simp[nG];omega);rw[zGr hks]at hf;have htl:(iI nd).take nd.length=iI nd:=aG (by simp[iI]);simp;refine fT [5] ?_;simp[iV,e0,e12,htl];refine gP [0,4,1] hf (by simp;exact⟨λa b h=>qg h,htl⟩) ?_;simp;exact fK [0,1,6,7] [2,3]
theorem zHV(v:gT->gT->Int->gY)(m k:gT)(hm:mq m)(hk:mq k)(lo op:Bool)(hop:op=true->k.names=[])(hlo:lo=true->m.names=[])(lb:Int)(T:List Int)(hT:T.length=6)
  (H:∀s,s∈uz lo op m k->gU Pg 62 [.agg (kidO m s).enc,.agg (kidO k s).enc,.one (.int .i64 lb)] (.agg (v (kidO m s) (kidO k s) lb).enc)):
  MCall Pg 100 [.c (.ptr 0 0),.ag (m.enc.map .d),.ag (k.enc.map .d),.c (.d (.bool lo)),.c (.d (.bool op)),.c (.d (.int .i64 lb))] [.box [.msl 1 1 0 6,.d (.sl true 2 []),.d (.sl true 1 []),.d (.sl true 5 []),.d (.sl true 5 [])],tq T] (.tup [])
   [.box [.msl 1 1 0 6,.d (.sl false 2 (iI (qj lb m k))),.msl 1 2 0 (ql v lo op m k lb).length,.msl 5 3 0 (ql v lo op m k lb).length,.d (.sl true 5 [])],tq T,.arr 1 ((encS ((ql v lo op m k lb).map (·.1))).map (·.map .d)),.arr 5 (((ql v lo op m k lb).map (·.2.enc)).map (·.map .d))]:=by
 refine zxk lZ λts hts ok hb c hN hp=>?_;obtain⟨t0,t1,rfl⟩:=F4 hts;have hr:=zz9 (lo:=lo) (op:=op) hm hk;have hnk:=Aq hk;have hns:qj lb m k=(lw m k.names).map λs=>(s,lb):=rfl;have hol:(lw m k.names).length<=200:=by
  unfold lw;have:=bS (λs=> !decide (s∈m.names)) k.names;omega
 rw[hns,zET];unfold Yz;simp;cases op with
 |true=>
  have hk0:=hop rfl;have hkid:∀s,kidO k s=pU 0:=λs=>zG0 hk0 s;have hkeys:uz lo true m k=m.names:=rfl;have hin:tO lo m k.names=[]:=by rw[hk0];try rfl
  have hou:lw m k.names=[]:=by rw[hk0];try rfl
  rw[hkeys]at H hr⊢;simp;refine Pi hp (λs=>v (kidO m s) (kidO k s) lb) m k hm lo lb T hT t0 t1 (λs hs=>by have:=H s hs;rw[hkid s]at this;rw[hkid s];exact this) (ms:=[0,1,2,3,4]) (by simp[iK]) λT' e0 e3 e5 e7 e8 e12=>?_;simp[e0,e3,e5,e7,e8,e12];refine fU [.c 0 1] ?_;simp[e0,e3,e5,e7,e8,e12];refine Ga hp (λs=>v (kidO m s) (kidO k s) lb) m k hm hk lo hlo lb T hT t0 t1 (nG (λs=>v (kidO m s) (kidO k s) lb) m.names) (λe=>absurd hk0 e) (λs hs=>by rw[hin]at hs;cases hs) (ms:=[0,1,2,3,4,5]) (by simp[e0,e3,e5,e7,e8,e12];exactλa b h=>qg h) λT2 f0 f12=>?_;rw[hin];have e:nG (λs=>v (kidO m s) (kidO k s) lb) m.names++nG (λs=>v (kidO m s) (kidO k s) lb) []=nG (λs=>v (kidO m s) (kidO k s) lb) m.names:=by simp[nG]
  rw[e];have:=zAE (c:=c) (λs=>v (kidO m s) (kidO k s) lb) m k m.names hr.1 hr.2 ((lw m k.names).map λs=>(s,lb)) (by simpa using hol) T hT t0 t1 T2 f0 f12;simpa using this
 | false=>
  have hin:tO lo m k.names=uz lo false m k:=by
   unfold tO uz;cases lo<;>simp
  simp;refine fU [.c 0 1] ?_;simp;refine Ga hp (λs=>v (kidO m s) (kidO k s) lb) m k hm hk lo hlo lb T hT t0 t1 [] (λ_=>rfl) (λs hs=>by rw[hin]at hs;exact H s hs) (ms:=[0,1,2,3,4,5]) (by simp[iK]) λT2 f0 f12=>?_;rw[hin,nil_append];have:=zAE (c:=c) (λs=>v (kidO m s) (kidO k s) lb) m k _ hr.1 hr.2 ((lw m k.names).map λs=>(s,lb)) (by simpa using hol) T hT t0 t1 T2 f0 f12;simpa using this
end Go.Gr.P
