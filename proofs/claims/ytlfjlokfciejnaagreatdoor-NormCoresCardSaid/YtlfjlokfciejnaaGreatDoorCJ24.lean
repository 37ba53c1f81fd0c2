/- Texts of ours, joined and written short by a program of ours. -/
import Derived.Test.YtlfjlokfciejnaaGreatDoorCLayS
import Derived.Test.YtlfjlokfciejnaaGreatDoorCSrt
import Derived.WalkKit
import Derived.Lib.Walk
import Derived.Test.YtlfjlokfciejnaaGreatDoorCJ20
import Derived.Test.YtlfjlokfciejnaaGreatDoorCJ18
import Derived.Shelf.SlSortCmp.NoneTotal
import Derived.Test.YtlfjlokfciejnaaGreatDoorCJ22
set_option maxRecDepth 20000
set_option maxHeartbeats 4000000
set_option linter.unusedVariables false
set_option linter.unusedSimpArgs false
namespace Go.Proofs
open Go.Shelf Go.RowKit Go.Lib Go.Sort
theorem Tryz.isNaN199(x:fI)(w:World):Calls Tryz.prog 199 #[.string x] w λe w'=>e=.returned (.bool false)/\w'=w:=by
 go_enter Tryz.func199,Tryz.ntmps199
 go_wp2
 go_ret
 exact⟨by simp,rfl⟩
def tZ(x y:fI):Int:=if Op.bytesLess x.data.toList y.data.toList=true then -1 else if(!(Op.bytesLess x.data.toList y.data.toList||decide (x=y)))=true then 1 else 0
theorem znA(t:TypeId)(a b:fI):binOp .gtr t (.string a) (.string b)=pure (.bool (!(Op.bytesLess a.data.toList b.data.toList||decide (a=b)))):=by
 show Op.stringOp .gtr a b=_;unfold Op.stringOp;rw[Go.Abs.toList_inj,ByteArray.toList_eq,ByteArray.toList_eq]
theorem Tryz.compare185(x y:fI)(w:World):Calls Tryz.prog 185 #[.string x,.string y] w λe w'=>e=.returned (.int .i64 (tZ x y))/\w'=w:=by
 have hg:=znA 9 x y
 go_enter Tryz.func185,Tryz.ntmps185
 go_wp2_with (go_at_call 199;refine(Tryz.isNaN199 _ _).mono ?_;rintro e w' ⟨rfl,hw⟩;rw[hw])
 ·rename_i h;rw[ByteArray.toList_eq,ByteArray.toList_eq]at h
  go_ret
  exact⟨by unfold tZ;rw[aC h];rfl,rfl⟩
 ·rename_i h2;have hL:Op.bytesLess x.data.toList y.data.toList=false:=by simpa using h2.1
  have he:¬x=y:=by simpa using h2.2
  go_ret
  exact⟨by unfold tZ;rw[hL];simp[he],rfl⟩
 ·rename_i h1 h2;rw[ByteArray.toList_eq,ByteArray.toList_eq]at h1;have he:x=y:=by simpa[h1]using h2
  go_ret
  exact⟨by unfold tZ;rw[h1];simp[he],rfl⟩
structure tq where
 name:fI
 a:Value
 b:Value
 c:Value
 d:Value
 h:a.oneCell'=true/\b.oneCell'=true/\c.oneCell'=true/\d.oneCell'=true
def ku(x:tq):List Value:=[.string x.name,x.a,x.b,x.c,x.d]
theorem Tryz.closure184(x y:tq)(W:World):Calls Tryz.prog 184 #[.agg (ku x).toArray,.agg (ku y).toArray] W λe w'=>e=.returned (.int .i64 (tZ x.name y.name))/\∃q os',w'=grow (W.drewN q) os':=by
 have hcon:=λW'=>Tryz.compare185 x.name y.name W';change∀W',Calls Tryz.prog 185 _ _ _ at hcon;generalize tZ x.name y.name=r at hcon⊢;unfold ku
 go_enter Tryz.func184,Tryz.ntmps184
 go_wp2_with (go_at_call 185;refine(hcon _).mono ?_;rintro e w' ⟨rfl,rfl⟩)
 go_ret
 exact⟨rfl,0,_,by rw[alloc_eq_grow,alloc_eq_grow,grow_grow];rfl⟩
instance:Inhabited tq:=⟨⟨⟨#[]⟩,.bool false,.bool false,.bool false,.bool false,⟨rfl,rfl,rfl,rfl⟩⟩⟩
def K7(x y:tq):Int:=tZ x.name y.name
theorem zoh(x y:tq):ltOf K7 x y=Op.bytesLess x.name.data.toList y.name.data.toList:=by
 unfold ltOf K7 tZ;by_cases h:Op.bytesLess x.name.data.toList y.name.data.toList=true
 ·rw[aC h,h];try rfl
 ·rw[aB h];simp only[aL]at h;rw[h];by_cases e:x.name=y.name<;>simp[e]
theorem znW(x y:tq):ltOf K7 x y=decide (Go.Gr.jY x.name y.name):=by
 rw[zoh,Go.Gr.Jf];try rfl
theorem zm3(x:tq):∀v,v∈ku x->v.oneCell'=true:=λv hv=>by
 obtain⟨h1,h2,h3,h4⟩:=x.h;simp only[ku,aN,List.not_mem_nil,fC]at hv;rcases hv with rfl|rfl|rfl|rfl|rfl
 ·rfl
 ·exact h1
 ·exact h2
 ·exact h3
 ·exact h4
def CL(ns:List fI)(i j:Nat):Int:=tZ (ns.getD i ⟨#[]⟩) (ns.getD j ⟨#[]⟩)
def kM(ns:List fI):Array Nat:=pdq (ltOf (CL ns)) (Array.range ns.length) 0 (Array.range ns.length).size (Lib.bitLen (Array.range ns.length).size) true true
theorem K8(ns:List fI)(i j:Nat):ltOf (CL ns) i j=decide (Go.Gr.jY (ns.getD i ⟨#[]⟩) (ns.getD j ⟨#[]⟩)):=by
 have h:=znW ⟨ns.getD i ⟨#[]⟩,.bool false,.bool false,.bool false,.bool false,⟨rfl,rfl,rfl,rfl⟩⟩ ⟨ns.getD j ⟨#[]⟩,.bool false,.bool false,.bool false,.bool false,⟨rfl,rfl,rfl,rfl⟩⟩;unfold ltOf K7 at h;unfold ltOf CL;exact h
theorem Hd(ns:List fI):SWO (ltOf (CL ns)) where
 irrefl x:=by rw[K8];simpa using Go.Gr.zl _
 trans x y z h1 h2:=by rw[K8]at*;simp at*;exact Go.Gr.xm h1 h2
 ntrans x y z h1 h2:=by
  rw[K8]at*
  simp only[bM]at*
  intro h;by_cases e:ns.getD y ⟨#[]⟩=ns.getD z ⟨#[]⟩
  ·rw[<-e]at h;exact h1 h
  ·cases Go.Gr.D6 e with
   |inl k=>exact h2 k
   |inr k=>exact h1 (Go.Gr.xm h k)
theorem zkZ(ns:List fI):PermIn 0 (Array.range ns.length).size (Array.range ns.length) (kM ns)/\SortedIn (ltOf (CL ns)) 0 (Array.range ns.length).size (kM ns):=
 pdq_sorts (ltOf (CL ns)) (Hd ns) _ 0 _ _ true true (dL _) (aQ _) (Or.inl rfl)
theorem Hf(ns:List fI):(kM ns).toList.Perm (List.range ns.length):=by
 obtain⟨h1,_,h3⟩:=(zkZ ns).1;simp only[Array.size_range]at h1 h3;have e1:(kM ns).extract 0 ns.length=kM ns:=by
  rw[<-h1];simp
 have e2:(Array.range ns.length).extract 0 ns.length=Array.range ns.length:=by
  apply Array.ext<;>simp
 rw[e1,e2]at h3;simpa using h3
theorem Tryz.sortN(ns:List fI)(F:Nat->tq)(hF:∀i,(F i).name=ns.getD i ⟨#[]⟩)(blk off cap:Nat)(w:World)(hH:HoldsK (λi=>ku (F i)) 5 w blk off (Array.range ns.length))(hblk:blk<w.heap.size)(hsz:ns.length<4611686018427387904):
  Calls Tryz.prog 183 #[.slice (some ⟨blk,off,none⟩) ns.length cap,.func (.func 184) #[] #[]] w λe w'=>
   e=.returned (.tuple #[])/\∃n os,w'=sortWorldK (λi=>ku (F i)) 5 w blk off n (kM ns) os:=by
 have eg:∀args w,(callFunc 184 args).run Tryz.prog w=.ok (.enter 184 args) w:=enters_of Tryz.func184 (by kernel_rfl) rfl;have hc:CmpLays Tryz.prog 184 #[] (λi=>ku (F i)) 5 (CL ns) blk off (Array.range ns.length).size w:=λm os dk _ x y=>by
  have h:=Tryz.closure184 (F x) (F y) (sortWorldK (λi=>ku (F i)) 5 w blk off m dk os);rw[hF,hF]at h;exact h
 have h:=AnyQ.slices_SortFunc_eq Tryz.sort183 5 Tryz.isAgg237 Tryz.sizeOf237 (λi=>ku (F i)) (λ_=>rfl) (λi=>zm3 (F i)) (CL ns) (Hd ns) 184 #[] blk off cap (Array.range ns.length) w eg hc hH hblk (by simpa using hsz);have e:(Array.range ns.length).size=ns.length:=by simp
 unfold kM;rw[e]at h⊢;exact h
end Go.Proofs
namespace Go.Gr.P
open Go.Abs Go.Proofs Go.RowKit Go.Sort Go.Shelf Go.Lib List
theorem Qr{h:PH}{ρ:RM}:∀{e:List AC} {vs:List Value},iJ h ρ e vs↔∀k (hk:k<e.length),∃v,vs[k]?=some v/\v.one1=true/\RepC h ρ e[k] v
|[],vs=>by simp[iJ]
|c::e,[]=>by
 simp only[iJ,getElem?_nil,false_iff];intro q;obtain⟨v,h,_⟩:=q 0 (by simp);cases h
| c::e,v::vs=>by
 simp only[iJ];rw[Qr (e:=e) (vs:=vs)];constructor
 ·rintro⟨⟨h1,h2⟩,h3⟩ k hk
  cases k with
  |zero=>exact⟨v,rfl,h1,h2⟩
  |succ k=>simpa using h3 k (by simpa using hk)
 ·intro q;obtain⟨v',e1,e2,e3⟩:=q 0 (by simp);simp only[getElem?_cons_zero,af]at e1;subst e1;refine⟨⟨e2,e3⟩,λk hk=>?_⟩;exact q (k+1) (by simpa using hk)
theorem Qs{h:PH}{ρ:RM}{s:Nat}:∀{es:List (List AC)} {vs:List Value},iR h ρ s es vs↔∀i (hi:i<es.length),es[i].length=s/\iJ h ρ es[i] (vs.drop (i*s))
|[],vs=>by simp[iR]
| e::es,vs=>by
 simp only[iR];rw[Qs (es:=es) (vs:=vs.drop s)];have key:∀i,(vs.drop s).drop (i*s)=vs.drop ((i+1)*s):=λi=>by rw[bO,bC,bu,dH]
 constructor
 ·rintro⟨h1,h2,h3⟩ i hi
  cases i with
  |zero=>simpa using ⟨h1,h2⟩
  |succ i=>
   have:=h3 i (by simpa using hi);rw[key]at this;simpa using this
 ·intro q;have q0:=q 0 (by simp);refine⟨by simpa using q0.1,by simpa using q0.2,λi hi=>?_⟩;rw[key];exact q (i+1) (by simpa using hi)
def kw(x:fI × List D):List AC:=.d (.str x.1)::x.2.map .d
def uq(v:Value):Value:=if v.oneCell' then v else .bool false
theorem K9(v:Value):(uq v).oneCell'=true:=by
 unfold uq;split
 ·assumption
 ·rfl
theorem znB(v:Value):v.one1=v.oneCell':=by cases v<;>rfl
theorem Ka{v:Value}(h:v.one1=true):uq v=v:=by rw[znB]at h;simp[uq,h]
def o6(ns:List fI)(vs:List Value)(i:Nat):tq:=
⟨ns.getD i ⟨#[]⟩,uq (vs.getD (i*5+1) undef),uq (vs.getD (i*5+2) undef),uq (vs.getD (i*5+3) undef),uq (vs.getD (i*5+4) undef),⟨K9 _,K9 _,K9 _,K9 _⟩⟩
def nA(xs:List (fI × List D)):List (fI × List D):=(kM (xs.map (·.1))).toList.map λi=>xs.getD i (⟨#[]⟩,[])
theorem zlv(xs:List (fI × List D)):(nA xs).Perm xs:=by
 have h:=(Hf (xs.map (·.1))).map λi=>xs.getD i (⟨#[]⟩,[]);refine h.trans ?_;have:(range (xs.map (·.1)).length).map (λi=>xs.getD i (⟨#[]⟩,[]))=xs:=by
  apply ext_getElem
  ·simp
  ·intro i h1 h2;simp[getD,h2]
 rw[this]
theorem Hg(xs:List (fI × List D)):(nA xs).length=xs.length:=(zlv xs).length_eq
theorem zhZ{h:PH}{ρ:RM}{xs:List (fI × List D)}(h4:∀x,x∈xs->x.2.length=4){vs:List Value}(r:iR h ρ 5 (xs.map kw) vs){i k:Nat}(hi:i<xs.length)(hk:k<5):
  vs[i*5+k]?=some ((ku (o6 (xs.map (·.1)) vs i))[k]!)/\((ku (o6 (xs.map (·.1)) vs i))[k]!).one1=true/\∀(hq:k<(kw xs[i]).length),RepC h ρ (kw xs[i])[k] ((ku (o6 (xs.map (·.1)) vs i))[k]!):=by
 have q:=(Qs.1 r) i (by simpa using hi);simp only[getElem_map]at q;have hl:(kw xs[i]).length=5:=q.1;obtain⟨v,e1,e2,e3⟩:=Qr.1 q.2 k (by omega);rw[ay]at e1;have key:(ku (o6 (xs.map (·.1)) vs i))[k]! =v:=by
  have hv:vs.getD (i*5+k) undef=v:=by simp[getD,e1]
  rcases(show k=0\/k=1\/k=2\/k=3\/k=4 by omega)with rfl|rfl|rfl|rfl|rfl
  ·simp only[kw,getElem_cons_zero,RepC,RepD]at e3;simp[ku,o6,getD,hi,e3.1]
  ·simp only[ku,o6,hv,Ka e2];rfl
  ·simp only[ku,o6,hv,Ka e2];rfl
  ·simp only[ku,o6,hv,Ka e2];rfl
  ·simp only[ku,o6,hv,Ka e2];rfl
 rw[key];exact⟨e1,e2,λ_=>e3⟩
theorem put_get{vs:List Value}{d:Array Value}{t:Nat}(h:t<d.size)(hv:t<vs.length):(putCells id 0 d vs.toArray).toList[t]?=some d[t]! :=by
 simp[putCells,h,hv]
theorem Qt(ns:List fI):(kM ns).size=ns.length:=by
 have:=(Hf ns).length_eq;simpa using this
theorem znX(ns:List fI){i:Nat}(hi:i<ns.length):(kM ns)[i]! <ns.length:=by
 have hs:=Qt ns;have:(kM ns)[i]! ∈(kM ns).toList:=by
  rw[getElem!_pos _ i (by omega)];simp
 simpa using (Hf ns).mem_iff.1 this
theorem zm6(xs:List (fI × List D)){i:Nat}(hi:i<(nA xs).length):∃hj:(kM (xs.map (·.1)))[i]! <xs.length,(nA xs)[i]=xs[(kM (xs.map (·.1)))[i]!]:=by
 have hi':i<xs.length:=by rw[Hg]at hi;exact hi
 have hs:=Qt (xs.map (·.1));simp only[aU]at hs;have hlt:=znX (xs.map (·.1)) (i:=i) (by simpa using hi');simp only[aU]at hlt;refine⟨hlt,?_⟩;have e:(nA xs)[i]?=some xs[(kM (xs.map (·.1)))[i]!]:=by
  have e1:(kM (xs.map (·.1))).toList[i]?=some (kM (xs.map (·.1)))[i]! :=by
   rw[getElem!_pos _ i (by omega)];simp
  unfold nA;rw[getElem?_map,e1];simp[getD,hlt]
 rw[aA hi]at e;exact bP e
theorem zlf{h:PH}{ρ:RM}{xs:List (fI × List D)}(h4:∀x,x∈xs->x.2.length=4){vs:List Value}(hvl:xs.length*5<=vs.length)(r:iR h ρ 5 (xs.map kw) vs):
  iR h ρ 5 ((nA xs).map kw) (putCells id 0 (flatK (λi=>ku (o6 (xs.map (·.1)) vs i)) 5 (kM (xs.map (·.1)))) vs.toArray).toList:=by
 have hs:=Qt (xs.map (·.1));simp only[aU]at hs;refine Qs.2 λi hi=>?_;have hi':i<(nA xs).length:=by simpa using hi
 have hin:i<xs.length:=by rw[Hg]at hi';exact hi'
 obtain⟨hj,e⟩:=zm6 xs hi';have hl:(kw xs[(kM (xs.map (·.1)))[i]!]).length=5:=by
  simp[kw,h4 _ (aP hj)]
 simp only[getElem_map,e];refine⟨hl,Qr.2 λk hk=>?_⟩;have hk5:k<5:=by omega
 obtain⟨_,q2,q3⟩:=zhZ h4 r hj hk5;refine⟨_,?_,q2,q3 hk⟩;rw[ay,put_get (by simp[hs];omega) (by omega),get_flatK _ _ _ _ (by rw[hs];omega),show(i*5+k)/5=i by omega,show(i*5+k)%5=k by omega]
theorem zlg{h:PH}{ρ:RM}{xs:List (fI × List D)}(h4:∀x,x∈xs->x.2.length=4){vs:List Value}(r:iR h ρ 5 (xs.map kw) vs){w:World}{B:Nat}{T:TypeId}(hw:w.heap[B]?=some (.cells vs.toArray T (0,0))):
  HoldsK (λi=>ku (o6 (xs.map (·.1)) vs i)) 5 w B 0 (Array.range (xs.map (·.1)).length):=λj hj=>by
 have hj':j<xs.length*5:=by simpa using hj
 have hd:j/5<xs.length:=by omega
 obtain⟨q1,_,_⟩:=zhZ h4 r hd (k:=j%5) (by omega);rw[show j/5*5+j%5=j by omega]at q1;rw[get_flatK _ _ _ _ (by simpa using hj')];have e:(Array.range (xs.map (·.1)).length)[j/5]! =j/5:=by simp[hd]
 rw[e];refine⟨?_,by simp[World.frozen?,hw]⟩;simp only[World.cell?,hw,Nat.zero_add,id];simpa using q1
theorem znk(L:Nat->Bool):∀l:List D,AC.lvs L (l.map .d)=true
|[]=>by simp[AC.lvs]
|d::l=>by simp[AC.lvs,AC.lv,znk L l]
theorem znw(L:Nat->Bool)(x:fI × List D):AC.lvs L (kw x)=true:=by
 simp[kw,AC.lvs,AC.lv,znk]
theorem znx(b c:Blk):upd (hpOf [b]) 0 c=hpOf [c]:=by
 funext i;cases i with
 |zero=>simp[upd]
 |succ i=>simp[upd]
theorem zln{α:Type} [Inhabited α](enc:α->List Value)(k:Nat)(w:World)(B n:Nat)(d:Array α)(os:Array Obj){vs:Array Value}{T:TypeId}(hw:w.heap[B]?=some (.cells vs T (0,0))):
  (sortWorldK enc k w B 0 n d os).heap=w.heap.setIfInBounds B (.cells (putCells id 0 (flatK enc k d) vs) T (0,0))++os:=by
 simp only[sortWorldK,putRowK,putRow,mapBlock,Go.Sort.grow,Go.Sort.ahead];congr 1;apply Array.ext_getElem?;intro i;simp only[Array.getElem?_modify,Array.getElem?_setIfInBounds];by_cases hi:B=i
 ·subst hi;have hlt:B<w.heap.size:=by
   rcases aW B w.heap.size with q|q
   ·exact q
   ·rw[aj q]at hw;cases hw
  rw[bJ hlt]at hw;have hw:=bP hw;simp[hlt,hw,onCells]
 ·simp[hi]
theorem zjX(xs:List (fI × List D))(h4:∀x,x∈xs->x.2.length=4)(h0:0<xs.length)(hl:xs.length<=1073741824):
  MCall Pg 183 [.c (.msl 5 0 0 xs.length),.c (.d (.fn (.func 184) []))] [.arr 5 (xs.map kw)] (.tup []) [.arr 5 ((nA xs).map kw)]:=by
 refine⟨by decide+kernel,aQ _,Ba (by simp),by simp,by simp[znw],λh ρ w argsC K _ r=>?_⟩
 match argsC,r with
 | [v1,v2],r=>
  simp only[zai,RepV,RepC,RepD,and_true]at r;obtain⟨⟨p,a,e1,e2,e3,e4,e5⟩,us,f1,f2,f3⟩:=r;have us0:us=[]:=aT.1 (by simpa using f2);subst us0;subst f1;have hpo:=K.own 0 p e1;simp only[Ci]at hpo;have hx:xs.map kw≠[]:=by
   intro q;have:=dP length q;simp only[aU,length_nil]at this;omega
  rcases hpo with⟨_,q⟩|⟨vs,T,hw,hvl,hel,hlm,rce⟩
  ·exact absurd q hx
  have hel':xs.length<=p.2:=by simpa using hel
  have hp2:0<p.2:=by omega
  obtain rfl:=e4 hp2;have hB:p.1<w.heap.size:=by
   rcases aW p.1 w.heap.size with q|q
   ·exact q
   ·rw[aj q]at hw;cases hw
  have hvl':xs.length*5<=vs.length:=by rw[hvl];exact bn 5 hel'
  subst e2;have hsz:(xs.map (·.1)).length<4611686018427387904:=by rw[aU];omega
  have hs:=Tryz.sortN (xs.map (·.1)) (o6 (xs.map (·.1)) vs) (λi=>rfl) p.1 0 (p.2-0) w (zlg h4 rce hw) hB hsz;simp only[aU]at hs;refine hs.mono λe w' q=>?_;obtain⟨rfl,n,os,rfl⟩:=q;have hrep:=zlf h4 hvl' rce;have hheap:=zln (λi=>ku (o6 (xs.map (·.1)) vs i)) 5 w p.1 n (kM (xs.map (·.1))) os hw;have hcl:(putCells id 0 (flatK (λi=>ku (o6 (xs.map (·.1)) vs i)) 5 (kM (xs.map (·.1)))) vs.toArray).toList.length=p.2*5:=by simp[putCells,hvl]
  generalize putCells id 0 (flatK (λi=>ku (o6 (xs.map (·.1)) vs i)) 5 (kM (xs.map (·.1)))) vs.toArray=cs at*
  have hbr:zaI h ρ p (.arr 5 ((nA xs).map kw)) (w.heap.setIfInBounds p.1 (.cells cs T (0,0))):=by
   refine .inr ⟨cs.toList,T,by simp[hB],hcl,by simpa[Hg]using hel',by simpa[Hg]using hlm,hrep⟩
  have hreal:Real (hpOf [Blk.arr 5 (xs.map kw)] 0) p:=hp2;obtain⟨K1,S1⟩:=K.set (.cells cs T (0,0)) e1 hreal (blk:=.arr 5 ((nA xs).map kw)) (by simp) hbr;rw[znx]at K1 S1;have hold:∀B,B<(w.heap.setIfInBounds p.1 (.cells cs T (0,0))).size->(w.heap.setIfInBounds p.1 (.cells cs T (0,0))++os)[B]?=(w.heap.setIfInBounds p.1 (.cells cs T (0,0)))[B]?:=λB hB=>Array.getElem?_append_left hB
  have K2:HRel h ρ (hpOf [Blk.arr 5 ((nA xs).map kw)]) (w.heap.setIfInBounds p.1 (.cells cs T (0,0))++os):=
   K1.grow (fu h) (λB o e=>by rw[hold B (K1.lt e)];exact K1.pers B o e) λB hB _=>⟨hold B hB,rfl⟩
  have S2:Step h ρ (hpOf [Blk.arr 5 ((nA xs).map kw)]) (w.heap.setIfInBounds p.1 (.cells cs T (0,0))) h ρ (hpOf [Blk.arr 5 ((nA xs).map kw)]) (w.heap.setIfInBounds p.1 (.cells cs T (0,0))++os):=
   ⟨fu h,λB hB _=>rfl,fw _,by simp,λB hB _=>hold B hB,λb p e hr=>.inr ⟨b,p,e,hr,rfl⟩⟩
  refine⟨.tuple #[],h,ρ,rfl,?_,?_,⟨rfl,rfl,rfl⟩,⟨[],rfl,by simp[zai]⟩,λ_ _=>rfl⟩
  ·rw[hheap];exact S1.wk.trans S2
  ·rw[hheap];exact K2
theorem zjY:MCall Pg 183 [.c (.msl 5 0 0 0),.c (.d (.fn (.func 184) []))] [.arr 5 []] (.tup []) [.arr 5 []]:=by
 refine⟨by decide+kernel,aQ _,Ba (by simp),by simp,by simp,λh ρ w argsC K _ r=>?_⟩
 match argsC,r with
 |[v1,v2],r=>
  simp only[zai,RepV,RepC,RepD,and_true]at r;obtain⟨⟨p,a,e1,e2,e3,e4,e5⟩,us,f1,f2,f3⟩:=r;subst e2;have hs:=AnyF.slices_SortFunc_none (P:=Tryz.prog) (ρ:=Tryz.sort183_ren) {Tryz.sort183 with} a (p.2-0) v2 w;refine Calls.mono hs λe w' q=>?_;obtain⟨rfl,rfl⟩:=q;exact⟨.tuple #[],h,ρ,rfl,(Step.refl _ _ _ _).wk,K,⟨rfl,rfl,rfl⟩,⟨[],rfl,by simp[zai]⟩,λ_ _=>rfl⟩
theorem zkJ(xs:List (fI × List D))(h4:∀x,x∈xs->x.2.length=4)(hl:xs.length<=1073741824):
  MCall Pg 183 [.c (.msl 5 0 0 xs.length),.c (.d (.fn (.func 184) []))] [.arr 5 (xs.map kw)] (.tup []) [.arr 5 ((nA xs).map kw)]:=by
 rcases Nat.eq_zero_or_pos xs.length with h0|h0
 ·have e:xs=[]:=aT.1 h0;have e2:nA xs=[]:=aT.1 (by rw[Hg];exact h0);rw[e2,e];exact zjY
 ·exact zjX xs h4 h0 hl
end Go.Gr.P
namespace Go.Gr.P
open Go.Abs Go.Proofs List
def noT:gq:=.mk 0 (bs []) [] []
def oH(xs:List (fI × gq)):List (fI × gq):=(kM (xs.map (·.1))).toList.map λi=>xs.getD i (⟨#[]⟩,noT)
theorem Qu(xs:List (fI × gq)):(oH xs).Perm xs:=by
 have h:=(Hf (xs.map (·.1))).map λi=>xs.getD i (⟨#[]⟩,noT);refine h.trans ?_;have:(range (xs.map (·.1)).length).map (λi=>xs.getD i (⟨#[]⟩,noT))=xs:=by
  apply ext_getElem
  ·simp
  ·intro i h1 h2;simp[getD,h2]
 rw[this]
def tu(x:fI × gq):fI × List D:=(x.1,x.2.enc)
theorem zlR(xs:List (fI × gq)){i:Nat}(hi:i<xs.length):(xs.map tu).getD i (⟨#[]⟩,[])=tu (xs.getD i (⟨#[]⟩,noT)):=by
 simp[getD,hi]
attribute [local irreducible] kM in
theorem zlS(xs:List (fI × gq)):nA (xs.map tu)=(oH xs).map tu:=by
 have e:(xs.map tu).map (·.1)=xs.map (·.1):=by simp[tu]
 have hp:=Hf (xs.map (·.1));unfold nA oH;rw[e];generalize (kM (xs.map (·.1))).toList=l at hp⊢;rw[bv];refine bg λi hi=>?_;have hi':=hp.mem_iff.1 hi;simp only[mem_range,aU]at hi';exact zlR xs hi'
def rC(l:List fI)(j:Nat):Bool:=decide (j=0)|| !decide (l.getD (j-1) ⟨#[]⟩=l.getD j ⟨#[]⟩)
def sK(l:List fI):Bool:=(range l.length).all (rC l)
def nC(ns:List fI)(ts:List gq):gq × Bool:=
 if ns.length≠ts.length\/16<ns.length then(noT,false)
 else if ns.all BK=true/\sK ((oH (ns.zip ts)).map (·.1))=true then(.mk 5 (bs []) ((oH (ns.zip ts)).map (·.1)) ((oH (ns.zip ts)).map (·.2)),true)
 else(noT,false)
abbrev x8(ns:List fI)(ts:List gq)(j:Nat):List (Nat × AV):=[(1,.c (.d (.sl false 4 (ts.map gq.enc)))),(4,.c (.ptr 0 0)),(6,.c (.msl 5 1 0 j)),(23,.c (.d (.sl false 1 (encS ns)))),(24,.c (.d (.int .i64 ns.length))),(25,.c (.d (.int .i64 j)))]
def lS(x:fI × gq):List D:=.str x.1::x.2.enc
abbrev uf(xs:List (fI × gq)):Blk:=.arr 5 ((xs.map lS).map (·.map .d))
theorem zkv(xs:List (fI × gq)):(xs.map tu).map kw=(xs.map lS).map (·.map .d):=by
 rw[bv,bv];try rfl
theorem spl(n:fI)(t:gq):splice [AC.d (D.str n),AC.d (D.int IntKind.i64 0),AC.d (D.str (bs [])),AC.d (D.sl true 1 []),AC.d (D.sl true 4 [])] 1 (List.map AC.d t.enc)=(lS (n,t)).map .d:=by
 obtain⟨k,m,s,l⟩:=t;simp[splice,gq.enc,lS]
theorem zmQ(x:fI × gq):(lS x).length=5:=by
 obtain⟨n,⟨k,m,s,l⟩⟩:=x;simp[gq.enc,lS]
theorem zob{c:Ctx}(hp:c.pure)(ns:List fI)(ts:List gq)(hn:ns.length=ts.length)(h16:ns.length<=16){Q:Exit->St->Prop}{S:St}{g}{ms:List Nat}
  (h0:iM ms S (x8 ns ts 0) [mY,uf []])
  (hF:ns.all BK=false->∀T M n,Abs.look T 4=.c (.ptr 0 0)->Abs.look T 5=.c (.d (.bool false))->M 0=mY->Q .ret ⟨T,M,n⟩)
  (hQ:ns.all BK=true->∀T,Abs.look T 4=.c (.ptr 0 0)->Abs.look T 6=.c (.msl 5 1 0 ns.length)->
   Q (.exit 0) ⟨T,hpOf [mY,uf (ns.zip ts)],2⟩):lU Pg c Q5 Q g S:=by
 refine fU iC hp (λj:Nat=>j<=ns.length/\(ns.take j).all BK=true) (λj=>x8 ns ts j)
  (λj=>[mY,uf ((ns.zip ts).take j)]) (λj=>ns.length-j) 0 ms ⟨by simp,by simp⟩ (by simpa using h0) λj ⟨h1,h2⟩=>?_
 unfold Q5;simp;apply gT<;>intro h
 ·have hj:j<ns.length:=by simpa using h
  have ht:j<ts.length:=by omega
  simp[aA hj,encS];refine gp (Iw ns[j]) ?_;simp;apply gT<;>intro hb
  ·simp at hb;refine hF ?_ _ _ _ (by simp) (by simp) (by simp);rw[all_eq_false];exact⟨ns[j],aP hj,by simp[hb]⟩
  ·simp at hb;have hz:j<(ns.zip ts).length:=by simp[length_zip];omega
   have htk:(ns.zip ts).take (j+1)=(ns.zip ts).take j++[(ns[j],ts[j])]:=by
    rw[aJ hz,getElem_zip]
   have hall:(ns.take (j+1)).all BK=true:=by
    rw[aJ hj,all_append,h2];simp[hb]
   simp[aA ht,spl,zmQ];refine⟨by omega,by omega,?_⟩;refine fJ (j+1) [0,2] ⟨by omega,hall⟩ (by omega) ?_;rw[htk];simp;refine⟨wI,by rw[take_take,eO];exact⟨rfl,rfl⟩,λx hx=>?_⟩;obtain⟨y,_,rfl⟩:=aa.1 (bi hx);simp
 ·have hj:j=ns.length:=by simp at h;omega
  subst hj;simp only[bG]at h2;have hz:(ns.zip ts).take ns.length=ns.zip ts:=aD (by simp[length_zip];omega);rw[hz];exact hQ h2 _ (by simp) (by simp)
abbrev znr(xs:List (fI × gq))(j:Nat):List (Nat × AV):=[(4,.c (.ptr 0 0)),(6,.c (.d (.sl false 5 (xs.map lS)))),(9,.c (.ptr 2 0)),(47,.c (.d (.sl false 5 (xs.map lS)))),(48,.c (.d (.int .i64 xs.length))),(49,.c (.d (.int .i64 j)))]
abbrev Hl(xs:List (fI × gq))(j:Nat):List Blk:=[mY,.dead,.box [.d (.int .i64 5),.d (.str (bs [])),.msl 1 3 0 j,.msl 4 4 0 j],.arr 1 (((xs.take j).map λx=>[D.str x.1]).map (·.map .d)),.arr 4 (((xs.take j).map λx=>x.2.enc).map (·.map .d))]
theorem znN{c:Ctx}(hp:c.pure)(xs:List (fI × gq))(h16:xs.length<=16){Q:Exit->St->Prop}{S:St}{g}{ms:List Nat}
  (h0:iM ms S (znr xs 0) (Hl xs 0))
  (hF:sK (xs.map (·.1))=false->∀T M n,Abs.look T 4=.c (.ptr 0 0)->Abs.look T 5=.c (.d (.bool false))->M 0=mY->Q .ret ⟨T,M,n⟩)
  (hQ:sK (xs.map (·.1))=true->∀T,Abs.look T 4=.c (.ptr 0 0)->Abs.look T 9=.c (.ptr 2 0)->
   Q (.exit 2) ⟨T,hpOf (Hl xs xs.length),5⟩):lU Pg c Q6 Q g S:=by
 refine fU iC hp (λj:Nat=>j<=xs.length/\(range j).all (rC (xs.map (·.1)))=true) (λj=>znr xs j)
  (λj=>Hl xs j) (λj=>xs.length-j) 0 ms ⟨by simp,by simp⟩ (by simpa using h0) λj ⟨h1,h2⟩=>?_
 unfold Q6;simp;apply gT<;>intro h
 ·have hj:j<xs.length:=by simpa using h
  have hadj:rC (xs.map (·.1)) j=false->sK (xs.map (·.1))=false:=λe=>by
   unfold sK;rw[all_eq_false];exact⟨j,by simpa using hj,by simp[e]⟩
  have hnext:rC (xs.map (·.1)) j=true->(range (j+1)).all (rC (xs.map (·.1)))=true:=λe=>by
   rw[range_succ,all_append,h2];simp[e]
  have htk:xs.take (j+1)=xs.take j++[xs[j]]:=aJ hj;rcases hx:xs[j]with⟨nm,⟨k,m,s,l⟩⟩;rw[hx]at htk;rcases Nat.eq_zero_or_pos j with h0j|h0j
  ·subst h0j;have hu:rC (xs.map (·.1)) 0=true:=by simp[rC]
   simp[aA hj,hx,lS,gq.enc,cut];refine⟨by decide,by decide,fJ 1 [0,1,2,6,7] ⟨by omega,hnext hu⟩ (by omega) ?_⟩;have htk':xs.take 1=[(nm,.mk k m s l)]:=by simpa using htk
   unfold Hl;simp only[htk'];simp[gq.enc];decide
  ·have hi:j-1<xs.length:=by omega
   have hwr:IntKind.i64.wrap ((j:Int)-1)=((j-1:Nat):Int):=by rw[show((j:Int)-1)=((j-1:Nat):Int) by omega];exact wI
   rcases hy:xs[j-1]with⟨nm2,⟨k2,m2,s2,l2⟩⟩;have hu:rC (xs.map (·.1)) j= !decide (nm2=nm):=by
    simp[rC,getD,hj,hi,hx,hy];omega
   simp[aA hj,aA hi,hx,hy,hwr,h0j,lS,gq.enc,cut];refine⟨by decide,gT (λhb=>?_) (λhb=>?_)⟩
   ·exact hF (hadj (by rw[hu];simpa using hb)) _ _ _ (by simp) (by simp) (by simp)
   ·refine⟨by omega,by omega,by omega,by omega,by decide,?_⟩;refine fJ (j+1) [0,1,2,6,7] ⟨by omega,hnext (by rw[hu];simpa using hb)⟩ (by omega) ?_;unfold Hl;simp only[htk];simp[gq.enc];refine⟨wI,⟨by rw[take_take,eO],λx hx=>?_⟩,by rw[take_take,eO],λx hx=>?_⟩
    ·obtain⟨y,_,rfl⟩:=aa.1 (bi hx);simp
    ·obtain⟨y,_,rfl⟩:=aa.1 (bi hx);simp
 ·have hj:j=xs.length:=by simp at h;omega
  subst hj;exact hQ (by unfold sK;rw[aU];exact h2) _ (by simp) (by simp)
theorem NJ(ns:List fI)(ts:List gq):gu Pg 166 [.one (.sl false 1 (encS ns)),.one (.sl false 4 (ts.map gq.enc))] (.tup [.agg (nC ns ts).1.enc,.one (.bool (nC ns ts).2)]):=by
 refine zhD (by simp) λo c hN hp=>?_;have hl1:ns.length<=zah:=by
  have:=o.1;simp only[DV.ok,D.ok,encS,aU]at this;exact this.1
 have hl2:ts.length<=zah:=by
  have:=o.2.1;simp only[DV.ok,D.ok,aU]at this;exact this.1
 unfold zah at hl1 hl2;unfold zdF;simp;apply gT<;>intro h
 ·have hn:ns.length=ts.length:=by simp at h;omega
  apply gT<;>intro h2
  ·have e:nC ns ts=(noT,false):=by
    unfold nC;rw[aC (.inr (by simp at h2;omega))]
   rw[e];simp[noT,gq.enc,gq.encs,encS]
  ·have h16:ns.length<=16:=by simp at h2;omega
   refine fo [.t 6] ?_;simp;refine zob hp ns ts hn h16 (ms:=[0,1]) (by simp) (λhf T M n e4 e5 m0=>?_) λht T e4 e6=>?_
   ·have e:nC ns ts=(noT,false):=by
     unfold nC;rw[aB (by omega),aB (by simp[hf])]
    rw[e];simp[e4,e5,m0,noT,gq.enc,gq.encs,encS]
   ·simp[e4,e6];have hs:=zkJ ((ns.zip ts).map tu) (λx hx=>by
     obtain⟨y,_,rfl⟩:=aa.1 hx;obtain⟨_,⟨k,n,s,l⟩⟩:=y
     simp[tu,gq.enc]) (by simp[length_zip];omega)
    rw[aU,length_zip,<-hn,eO,zlS,zkv,zkv]at hs;refine gU [1] hs ?_;have hrec:nC ns ts=if sK ((oH (ns.zip ts)).map (·.1))=true then(.mk 5 (bs []) ((oH (ns.zip ts)).map (·.1)) ((oH (ns.zip ts)).map (·.2)),true)else(noT,false):=by
     unfold nC;rw[aB (by omega)];simp only[ht,true_and]
    have hxl:(oH (ns.zip ts)).length=ns.length:=by rw[(Qu _).length_eq,length_zip];omega
    clear hs;rw[hrec];generalize oH (ns.zip ts)=xs at*
    have h16':xs.length<=16:=by omega
    rw[<-hxl]at e6⊢;simp;refine fe [1] ?_;simp[iT,e4,e6];refine fo [.c 2 2,.c 2 3] ?_;have htl:take xs.length (xs.map lS)=xs.map lS:=aD (by simp);simp[iT,e4,e6,htl];refine znN hp xs h16' (ms:=[0,1,2,3,4]) (by simp[iT,e4,e6,htl]) (λhf T M n e4 e5 m0=>?_) λha T e4 e9=>?_
    ·rw[aB (by simp[hf])];simp[e4,e5,m0,noT,gq.enc,gq.encs,encS]
    ·rw[aC ha];simp[e4,e9,gq.enc,gq.encs,encS];refine⟨?_,?_⟩
     ·rw[aD (by simp)];try rfl
     ·rw[aD (by simp),gq.encs_map,bv];try rfl
 ·have e:nC ns ts=(noT,false):=by
   unfold nC;rw[aC (.inl (by simp at h;omega))]
  rw[e];simp[noT,gq.enc,gq.encs,encS]
def wH(k:Int)(s:List fI)(l:List gq):gq × Bool:=
 if k=5 then nC s l else if k=6 then(.mk 6 (bs []) [] l,decide (l.length=2))else xA l
mutual
def lQ:gq->gq × Bool
|.mk k _ s l=>if 5<=k/\k<=7 then(if(mO l).2=true then wH k s (mO l).1 else(noT,false))else if 0<=k/\k<=4 then(.mk k (bs []) [] [],true)else(noT,false)
def mO:List gq->List gq × Bool
|[]=>([],true)
|t::l=>if(lQ t).2=true then((lQ t).1::(mO l).1,(mO l).2)else([],false)
end
theorem zmz(t:gq):lQ t=if 5<=t.kind/\t.kind<=7 then(if(mO t.kids).2=true then wH t.kind t.names (mO t.kids).1 else(noT,false))else if 0<=t.kind/\t.kind<=4 then(.mk t.kind (bs []) [] [],true)else(noT,false):=by
 cases t;rw[lQ];try rfl
abbrev yo(t:gq)(j:Nat):List (Nat × AV):=[(1,.c (.d (.rp t.enc 0))),(2,.c (.ptr 0 0)),(4,.c (.msl 4 1 0 j)),(18,.c (.d (.sl false 4 (t.kids.map gq.enc)))),(19,.c (.d (.int .i64 t.kids.length))),(20,.c (.d (.int .i64 j)))]
abbrev Dh(l:List gq):List Blk:=[mY,.arr 4 ((l.map gq.enc).map (·.map .d))]
theorem DI{c:Ctx}(hp:c.pure)(t:gq)(hl:t.kids.length<=1000)(ih:∀e,e∈t.kids->gu Pg 143 [.agg e.enc] (.tup [.agg (lQ e).1.enc,.one (.bool (lQ e).2)])){Q:Exit->St->Prop}{S:St}{g}{ms:List Nat}
  (h0:iM ms S (yo t 0) (Dh []))
  (hF:(mO t.kids).2=false->∀T M n,Abs.look T 2=.c (.ptr 0 0)->Abs.look T 3=.c (.d (.bool false))->M 0=mY->Q .ret ⟨T,M,n⟩)
  (hQ:(mO t.kids).2=true->∀T,Abs.look T 1=.c (.d (.rp t.enc 0))->Abs.look T 2=.c (.ptr 0 0)->Abs.look T 4=.c (.msl 4 1 0 (mO t.kids).1.length)->
   Q (.exit 0) ⟨T,hpOf (Dh (mO t.kids).1),2⟩):lU Pg c Q0 Q g S:=by
 refine fU iC hp (λx:Nat × List gq=>x.1<=t.kids.length/\x.2.length=x.1/\mO t.kids=(x.2++(mO (t.kids.drop x.1)).1,(mO (t.kids.drop x.1)).2)) (λx=>yo t x.1)
  (λx=>Dh x.2) (λx=>t.kids.length-x.1) (0,[]) ms ⟨by simp,rfl,by simp⟩ h0 λ⟨j,acc⟩ ⟨h1,h3,h2⟩=>?_
 unfold Q0;simp only at h1 h2 h3;simp;apply gT<;>intro h
 ·have hj:j<t.kids.length:=by simpa using h
  rw[aF hj,mO]at h2;have hc:∀e:gq,cut e.enc 0 4=e.enc:=λe=>by unfold cut;simp
  have hc2:∀e:gq,cut (e.enc.map AC.d) 0 4=e.enc.map AC.d:=λe=>by unfold cut;simp
  simp[aA hj,hc,hc2];refine gp (ih _ (aP hj)) ?_;simp[hc,hc2];apply gT<;>intro hb
  ·simp at hb;rw[aB (by simp[hb])]at h2;refine hF (by rw[h2]) _ _ _ (by simp) (by simp) (by simp)
  ·simp at hb;rw[aC hb]at h2;refine⟨by omega,by omega,?_⟩;refine fJ (j+1,acc++[(lQ t.kids[j]).1]) [0,4] ⟨by simp only;omega,by simp[h3],by rw[h2];simp⟩ (by simp;omega) ?_;simp;exact⟨wI,aD (by simp;omega)⟩
 ·have hj:j=t.kids.length:=by simp at h;omega
  subst hj;rw[aO,mO]at h2;simp only[bN]at h2;rw[h2]at hQ;have:=hQ rfl;simp only[h3]at this;exact this _ (by simp) (by simp) (by simp)
theorem zn7(t:gq)(hk:t.kind=5)(hl:t.kids.length<=1000)(ih:∀e,e∈t.kids->gu Pg 143 [.agg e.enc] (.tup [.agg (lQ e).1.enc,.one (.bool (lQ e).2)])):
  gu Pg 143 [.agg t.enc] (.tup [.agg (if(mO t.kids).2=true then nC t.names (mO t.kids).1 else(noT,false)).1.enc,.one (.bool (if(mO t.kids).2=true then nC t.names (mO t.kids).1 else(noT,false)).2)]):=by
 refine KV (by simp) λo c hN hp=>?_;unfold HY;simp[hk];refine fo [.t 4] ?_;simp[hk];refine DI hp t hl ih (ms:=[0,1]) (by simp) (λhf T M n e2 e3 m0=>?_) λha T e1 e2 e4=>?_
 ·rw[aB (by simp[hf])];simp[e2,e3,m0,noT,gq.enc,gq.encs,encS]
 ·rw[aC ha];simp[e1,e2,e4,hk];generalize (mO t.kids).1=l at*
  refine fe [1] ?_;have htl:take l.length (l.map gq.enc)=l.map gq.enc:=aD (by simp);simp[iT,e1,e2,e4,htl];refine gp (NJ t.names l) ?_;have hc:∀e:gq,cut e.enc 0 4=e.enc:=λe=>by unfold cut;simp
  simp[iT,e1,e2,e4,htl,hc]<;>(rw[gq.enc_eq];simp[D.er])
theorem zn8(t:gq)(hk:t.kind=7)(hl:t.kids.length<=1000)(ih:∀e,e∈t.kids->gu Pg 143 [.agg e.enc] (.tup [.agg (lQ e).1.enc,.one (.bool (lQ e).2)])):
  gu Pg 143 [.agg t.enc] (.tup [.agg (if(mO t.kids).2=true then xA (mO t.kids).1 else(noT,false)).1.enc,.one (.bool (if(mO t.kids).2=true then xA (mO t.kids).1 else(noT,false)).2)]):=by
 refine KV (by simp) λo c hN hp=>?_;unfold HY;simp[hk];refine fo [.t 4] ?_;simp[hk];refine DI hp t hl ih (ms:=[0,1]) (by simp) (λhf T M n e2 e3 m0=>?_) λha T e1 e2 e4=>?_
 ·rw[aB (by simp[hf])];simp[e2,e3,m0,noT,gq.enc,gq.encs,encS]
 ·rw[aC ha];simp[e1,e2,e4,hk];generalize (mO t.kids).1=l at*
  refine fe [1] ?_;have htl:take l.length (l.map gq.enc)=l.map gq.enc:=aD (by simp);simp[iT,e1,e2,e4,htl];refine gp (NM l) ?_;have hc:∀e:gq,cut e.enc 0 4=e.enc:=λe=>by unfold cut;simp
  simp[iT,e1,e2,e4,htl,hc]<;>(rw[gq.enc_eq];simp[D.er])
theorem zn9(t:gq)(hk:t.kind=6)(hl:t.kids.length<=1000)(ih:∀e,e∈t.kids->gu Pg 143 [.agg e.enc] (.tup [.agg (lQ e).1.enc,.one (.bool (lQ e).2)])):
  gu Pg 143 [.agg t.enc] (.tup [.agg (if(mO t.kids).2=true then(gq.mk 6 (bs []) [] (mO t.kids).1,decide ((mO t.kids).1.length=2))else(noT,false)).1.enc,.one (.bool (if(mO t.kids).2=true then(gq.mk 6 (bs []) [] (mO t.kids).1,decide ((mO t.kids).1.length=2))else(noT,false)).2)]):=by
 refine KV (by simp) λo c hN hp=>?_;unfold HY;simp[hk];refine fo [.t 4] ?_;simp[hk];refine DI hp t hl ih (ms:=[0,1]) (by simp) (λhf T M n e2 e3 m0=>?_) λha T e1 e2 e4=>?_
 ·rw[aB (by simp[hf])];simp[e2,e3,m0,noT,gq.enc,gq.encs,encS]
 ·rw[aC ha];simp[e1,e2,e4,hk];generalize (mO t.kids).1=l at*
  refine fe [1] ?_;have htl:take l.length (l.map gq.enc)=l.map gq.enc:=aD (by simp);simp[iT,e1,e2,e4,htl];simp[gq.enc,gq.encs_map,encS,D.er];omega
end Go.Gr.P
namespace Go.Gr.P
open Go.Abs Go.Proofs
mutual
def lC:gq->Prop
|.mk _ _ _ l=>l.length<=200/\qp l
def qp:List gq->Prop
|[]=>True
|t::l=>lC t/\qp l
end
theorem JH:∀l:List gq,qp l↔∀x,x∈l->lC x
|[]=>by simp[qp]
|t::l=>by simp[qp,JH l]
theorem Kb(t:gq):lC t↔t.kids.length<=200/\∀x,x∈t.kids->lC x:=by
 cases t;simp only[lC,JH,gq.kids]
theorem znZ(t:gq):1<=sW t:=by
 have key:∀(l:List gq) (n:Nat),n<=mr l n:=λl=>by
  induction l with
  |nil=>intro n;rw[mr];omega
  |cons t l ih=>intro n;rw[mr];split;omega;have:=ih (n+sW t);omega
 rw[H9];have:=key t.kids 1;omega
theorem zjL:∀(l:List gq) (n:Nat),n<=200->mr l n<=200->n+l.length<=200/\∀x,x∈l->sW x<=200
|[],n,hn,_=>⟨by simpa using hn,λx hx=>by cases hx⟩
| t::l,n,hn,h=>by
 rw[mr,aB (by omega)]at h;have h1:=znZ t;by_cases q:n+sW t<=200
 ·obtain⟨p1,p2⟩:=zjL l (n+sW t) q h;refine⟨by simp only[List.length_cons];omega,λx hx=>?_⟩;rcases aN.1 hx with rfl|hx
  ·omega
  ·exact p2 x hx
 ·rw[zlB (by omega)]at h;omega
mutual
theorem Qv:∀t:gq,sW t<=200->lC t
|.mk k n s l,h=>by
 rw[H9]at h;simp only[gq.kids]at h;obtain⟨p1,p2⟩:=zjL l 1 (by omega) (by omega);rw[lC];exact⟨by omega,zjM l p2⟩
theorem zjM:∀l:List gq,(∀x,x∈l->sW x<=200)->qp l
|[],_=>by rw[qp];trivial
|t::l,h=>by
 rw[qp];exact⟨Qv t (h t (by simp)),zjM l λx hx=>h x (by simp[hx])⟩
end
theorem zog(t:gq)(h5:¬(5<=t.kind/\t.kind<=7)):
  gu Pg 143 [.agg t.enc] (.tup [.agg (if 0<=t.kind/\t.kind<=4 then(gq.mk t.kind (bs []) [] [],true)else(noT,false)).1.enc,.one (.bool (if 0<=t.kind/\t.kind<=4 then(gq.mk t.kind (bs []) [] [],true)else(noT,false)).2)]):=by
 refine KV (by simp) λo c hN hp=>?_;have hw:=t.enc_eq;unfold HY;by_cases hk:0<=t.kind/\t.kind<=4
 ·rw[aC hk];have hk:t.kind=0\/t.kind=1\/t.kind=2\/t.kind=3\/t.kind=4:=by omega
  rcases hk with hk|hk|hk|hk|hk<;>simp[hk,gq.enc,gq.encs,encS]
 ·rw[aB hk];have n0:¬t.kind=0:=by omega
  have n1:¬t.kind=1:=by omega
  have n2:¬t.kind=2:=by omega
  have n3:¬t.kind=3:=by omega
  have n4:¬t.kind=4:=by omega
  have n5:¬t.kind=5:=by omega
  have n6:¬t.kind=6:=by omega
  have n7:¬t.kind=7:=by omega
  by_cases g:5<=t.kind
  ·have g':¬t.kind<=7:=by omega
   simp[g,g',n0,n1,n2,n3,n4,n5,n6,n7,noT,gq.enc,gq.encs,encS]
  ·simp[g,n0,n1,n2,n3,n4,n5,n6,n7,noT,gq.enc,gq.encs,encS]
theorem NR(t:gq)(hl:t.kids.length<=1000)(ih:∀e,e∈t.kids->gu Pg 143 [.agg e.enc] (.tup [.agg (lQ e).1.enc,.one (.bool (lQ e).2)])):
  gu Pg 143 [.agg t.enc] (.tup [.agg (lQ t).1.enc,.one (.bool (lQ t).2)]):=by
 rw[zmz];by_cases h5:5<=t.kind/\t.kind<=7
 ·rw[aC h5];unfold wH;by_cases k5:t.kind=5
  ·rw[aC k5];exact zn7 t k5 hl ih
  ·by_cases k6:t.kind=6
   ·rw[aB k5,aC k6];exact zn9 t k6 hl ih
   ·rw[aB k5,aB k6];exact zn8 t (by omega) hl ih
 ·rw[aB h5];exact zog t h5
mutual
theorem Fg:∀t:gq,lC t->gu Pg 143 [.agg t.enc] (.tup [.agg (lQ t).1.enc,.one (.bool (lQ t).2)])
|.mk k n s l,h=>by
 rw[lC]at h;exact NR (.mk k n s l) (by simp only[gq.kids];omega) (λe he=>Fh l h.2 e he)
theorem Fh:∀l:List gq,qp l->∀e,e∈l->gu Pg 143 [.agg e.enc] (.tup [.agg (lQ e).1.enc,.one (.bool (lQ e).2)])
|[],_,e,he=>by cases he
|t::l,h,e,he=>by
 rw[qp]at h;cases he with
 |head=>exact Fg t h.1
 |tail _ he=>exact Fh l h.2 e he
end
def Di(t:gq):gq × Int:=if 16<hgt 16 t\/200<sW t then(noT,9)else if(lQ t).2=true then((lQ t).1,0)else(noT,9)
theorem Ag(t:gq):gu Pg 95 [.agg t.enc] (.tup [.agg (Di t).1.enc,.one (.int .i64 (Di t).2)]):=by
 refine zjm (by simp) λo c hN hp=>?_;unfold ze6 Di;have he:noT.enc=[.int .i64 0,.str (bs []),.sl false 1 [],.sl false 4 []]:=rfl;simp;refine gp (Fb t) ?_;simp;apply gT<;>intro h1
 ·simp at h1;refine gp (zi5 t) ?_;simp;apply gT<;>intro h2
  ·simp at h2;rw[aC (by omega)];simp[he]
  ·simp at h2;rw[aB (by omega)];refine gp (Fg t (Qv t (by omega))) ?_;simp;apply gT<;>intro h3
   ·simp at h3;simp[h3,he]
   ·simp at h3;simp[h3]<;>(rw[gq.enc_eq];simp[D.er])
 ·simp at h1;rw[aC (by omega)];simp[he]
def zz(t:gq):Bool:=decide ((Di t).2=0)&&ky (Di t).1 t
theorem zzM(t:gq):gu Pg 61 [.agg t.enc] (.one (.bool (zz t))):=by
 refine zyk (by simp) λo c hN hp=>?_;unfold zta zz;simp;refine gp (Ag t) ?_;simp;apply gT<;>intro h
 ·simp at h;refine gp (K6 _ t) ?_;simp[h]
 ·simp at h;simp[h]
theorem gu.erdV{P:Program}{f:FuncId}{args:List DV}{v v':DV}(h:gu P f args v)(e:v.erd=v'):gu P f args v':=by
 subst e;refine⟨h.1,λph w us hp hG r=>(h.2 ph w us hp hG r).mono λe w' q=>?_⟩;obtain⟨vC,h',q1,q2,q3,q4,q5,q6,q7,q8⟩:=q;exact⟨vC,h',q1,q2,q3,q4,q5,q6,q7,kR.erd q8⟩
abbrev Qw:Blk:=.box [.msl 1 1 0 6,.d (.sl true 2 []),.d (.sl true 1 []),.d (.sl true 5 []),.d (.sl true 5 [])]
def qA(k:Int):gq:=.mk k (bs []) [] []
theorem A8:∀l:List fI,D.erdE (encS l)=encS l
|[]=>rfl
|s::l=>by
 have ih:=A8 l;simp only[encS,List.map_cons,D.erdE,D.erdL,D.erd]at ih⊢;rw[ih]
mutual
theorem gq.erdL:∀t:gq,D.erdL t.enc=t.enc
|.mk k n s l=>by
 simp only[gq.enc,D.erdL,D.erd,A8,gq.erdE l]
theorem gq.erdE:∀l:List gq,D.erdE (gq.encs l)=gq.encs l
|[]=>rfl
|t::l=>by simp only[gq.encs,D.erdE,gq.erdL t,gq.erdE l]
end
def lit(k:Int)(l:List (List D)):List D:=[.int .i64 k,.str (bs []),.sl true 1 [],.sl true 4 l]
def wJ(op:Bool)(k:gq)(s:fI):gq × Bool:=
 if 0<=fi (λx=>decide (s=x)) 0 k.names then(k.kids.getD (fi (λx=>decide (s=x)) 0 k.names).toNat (qA 0),true)else(qA 0,op)
theorem Qx{α:Type}(q:α->Bool):∀(l:List α) (j:Nat),fi q j l<(j+l.length:Nat)
|[],j=>by simp[fi];omega
|x::l,j=>by
 rw[fi];split
 ·simp;omega
 ·have:=Qx q l (j+1);simp at this⊢;omega
mutual
def jG:gq->Prop
|.mk k nm s l=>nm=bs []/\lW l/\((0<=k/\k<=4/\s=[]/\l=[])\/(k=5/\s.length=l.length/\s.Pairwise jY)\/(k=6/\s=[]/\l.length=2)\/(k=7/\s=[]/\2<=l.length/\(l.map iN).Pairwise (· < ·)/\∀x,x∈l->0<=iN x))
def lW:List gq->Prop
|[]=>True
|t::l=>jG t/\lW l
end
theorem zb:∀l:List gq,lW l↔∀x,x∈l->jG x
|[]=>by simp[lW]
|t::l=>by simp[lW,zb l]
theorem mI(t:gq):jG t↔t.name=bs []/\(∀x,x∈t.kids->jG x)/\((0<=t.kind/\t.kind<=4/\t.names=[]/\t.kids=[])\/(t.kind=5/\t.names.length=t.kids.length/\t.names.Pairwise jY)\/(t.kind=6/\t.names=[]/\t.kids.length=2)\/(t.kind=7/\t.names=[]/\2<=t.kids.length/\(t.kids.map iN).Pairwise (· < ·)/\∀x,x∈t.kids->0<=iN x)):=by
 cases t;simp only[jG,zb,gq.kind,gq.name,gq.names,gq.kids]
mutual
def jD:gq->Nat
|.mk _ _ _ l=>jk l+1
def jk:List gq->Nat
|[]=>0
|t::l=>max (jD t) (jk l)
end
theorem Bn:∀{l:List gq} {x:gq},x∈l->jD x<=jk l
|t::l,x,h=>by
 rw[jk];rcases aN.1 h with rfl|h
 ·omega
 ·have:=Bn h;omega
theorem wV{t x:gq}(h:x∈t.kids):jD x<jD t:=by
 cases t with
 |mk a b c l=>have:=Bn (l:=l) h;rw[jD];omega
end Go.Gr.P
namespace Go.Gr.P
open Go.Abs Go.Proofs List
theorem Bo{k:gq}(h:jG k)(h7:k.kind≠7):(k.names.length=k.kids.length\/k.names=[])/\k.names.length<=k.kids.length/\(iN k=5->k.kids.length=2):=by
 have h:=((mI k).1 h).2.2;rcases h with⟨a,b,c,d⟩|⟨a,b,c⟩|⟨a,b,c⟩|⟨a,_⟩
 ·refine⟨.inr c,by rw[c];simp,λe=>?_⟩;unfold iN at e;split at e<;>omega
 ·refine⟨.inl b,by omega,λe=>?_⟩;unfold iN at e;split at e<;>omega
 ·exact⟨.inr b,by rw[b];simp,λ_=>c⟩
 ·exact absurd a h7
theorem zEQ:jG (qA 0):=by
 rw[mI];exact⟨rfl,(λx hx=>by cases hx),.inl ⟨by decide,by decide,rfl,rfl⟩⟩
theorem x9(t:gq):1<=jD t:=by cases t;rw[jD];omega
theorem Kc{l:List gq}{i:Nat}(h:i<l.length):l.getD i (qA 0)∈l:=by
 rw[aH,aA h];exact aP h
end Go.Gr.P
namespace Go.Gr.P
open Go.Abs Go.Proofs Go.Sort List
mutual
theorem DJ:∀(a b:gq),ky a b=true↔a=b
|.mk k n s l,.mk k' n' s' l'=>by
 simp only[ky,aG,aI,gq.mk.injEq];rw[Fj l l']
theorem Fj:∀(a b:List gq),qX a b=true↔a=b
|[],[]=>by simp[qX]
|[],_::_=>by simp[qX]
|_::_,[]=>by simp[qX]
|a::l,b::k=>by
 simp only[qX,aG,dh];rw[DJ a b,Fj l k]
end
theorem zFe(xs:List (fI × gq)):(oH xs).map (·.1)=(kM (xs.map (·.1))).toList.map λi=>(xs.map (·.1)).getD i ⟨#[]⟩:=by
 unfold oH;rw[bv];refine bg λi _=>?_;simp only[Function.comp_apply,aH,getElem?_map];cases xs[i]?<;>rfl
theorem zDU(xs:List (fI × gq)):((oH xs).map (·.1)).Pairwise λa b=>¬jY b a:=by
 rw[zFe,pairwise_map];obtain⟨⟨h1,_⟩,h2⟩:=zkZ (xs.map (·.1));generalize xs.map (·.1)=ns at*
 simp only[Array.size_range]at h1 h2;rw[bZ];intro i j hi hj hij;have:=h2 i j (dL _) hij (by simpa[h1]using hj);rw[K8]at this;have hi':i<(kM ns).size:=by simpa using hi
 have hj':j<(kM ns).size:=by simpa using hj
 rw[getElem!_pos (kM ns) i hi',getElem!_pos (kM ns) j hj']at this;simpa using this
theorem zA8:∀l:List fI,(∀i (h:i+1<l.length),jY l[i] l[i+1])->l.Pairwise jY
|[],_=>by simp
|[a],_=>by simp
|a::b::l,h=>by
 have ih:=zA8 (b::l) λi hi=>h (i+1) (by simp only[length_cons]at hi⊢;omega);have hab:jY a b:=h 0 (by simp);refine List.Pairwise.cons (λc hc=>?_) ih;rcases aN.1 hc with rfl|hc
 ·exact hab
 ·exact xm hab (rel_of_pairwise_cons ih hc)
theorem zIR{l:List fI}(h:sK l=true){i:Nat}(hi:i+1<l.length):l[i]≠l[i+1]:=by
 unfold sK at h;rw[ah]at h;have:=h (i+1) (by simpa using hi);unfold rC at this;intro e;have hi':i<l.length:=by omega
 simp[aH,aA hi,aA hi',e]at this
theorem zIS(s:List fI)(l:List gq)(hl:∀x,x∈l->jG x)(h:(nC s l).2=true):jG (nC s l).1:=by
 unfold nC at h⊢;split at h
 ·cases h
 ·rename_i hc;rw[aB hc];split at h
  ·rename_i hd;rw[aC hd];rw[mI];refine⟨rfl,λx hx=>?_,.inr (.inl ⟨rfl,by simp[gq.names,gq.kids],?_⟩)⟩
   ·simp only[gq.kids,aa]at hx;obtain⟨y,hy,rfl⟩:=hx;have:=(Qu _).mem_iff.1 hy;exact hl _ (of_mem_zip (a:=y.1) (b:=y.2) this).2
   ·simp only[gq.names];refine zA8 _ λi hi=>?_;have h1:=zIR hd.2 hi;have h2:=(bZ.1 (zDU (s.zip l))) i (i+1) (by omega) hi (by omega);exact(D6 h1).resolve_right h2
  ·cases h
def Hm(of:List (Option gq)):Prop:=∀(i:Nat) (k:gq),of[i]?=some (some k)->iN k=i/\jG k
theorem zH5{of:List (Option gq)}(h:Hm of){k:gq}(hk:jG k):Hm (qU of k).2:=by
 unfold qU;split
 ·exact h
 ·rename_i h0;split
  ·intro i m hm;simp only at hm;rw[getElem?_set]at hm;split at hm
   ·rename_i e;split at hm
    ·simp only[af]at hm;subst hm;exact⟨by omega,hk⟩
    ·cases hm
   ·exact h i m hm
  ·exact h
theorem zzx:∀(l:List gq) {of:List (Option gq)},Hm of->(∀k,k∈l->jG k)->Hm (oG l of).2
|[],of,h,_=>h
|m::l,of,h,hl=>by
 rw[oG];split
 ·exact zzx l (zH5 h (hl m (by simp))) λk hk=>hl k (by simp[hk])
 ·exact h
theorem zzy:∀(of:List (Option gq)) (n:Nat),(∀(i:Nat) (k:gq),of[i]?=some (some k)->iN k=(n+i:Nat))->((of.filterMap id).map iN).Pairwise (· < ·)/\∀x,x∈of.filterMap id->(n:Int)<=iN x
|[],n,_=>by simp
| o::of,n,h=>by
 have ih:=zzy of (n+1) λi k hk=>by rw[h (i+1) k (by simpa using hk)];omega
 cases o with
 |none=>
  simp only[filterMap_cons,id];exact⟨ih.1,λx hx=>by have:=ih.2 x hx;omega⟩
 | some t=>
  have h0:=h 0 t (by simp);simp only[filterMap_cons,id];refine⟨List.Pairwise.cons (λy hy=>?_) ih.1,λx hx=>?_⟩
  ·obtain⟨x,hx,rfl⟩:=aa.1 hy;have:=ih.2 x hx;omega
  ·rcases aN.1 hx with rfl|hx
   ·omega
   ·have:=ih.2 x hx;omega
theorem zGR{of:List (Option gq)}{x:gq}(h:x∈of.filterMap id):∃i:Nat,of[i]?=some (some x):=by
 rw[mem_filterMap]at h;obtain⟨o,ho,e⟩:=h;simp only[id]at e;subst e;exact List.mem_iff_getElem?.1 ho
theorem zGS(l:List gq)(hl:∀x,x∈l->jG x)(h:(xA l).2=true):jG (xA l).1:=by
 have hm:∀m,m∈l.flatMap iy->jG m:=λm hm=>by
  obtain⟨k,hk,hmk⟩:=eZ.1 hm;have hw:=hl k hk;unfold iy at hmk;split at hmk
  ·exact((mI k).1 hw).2.1 m hmk
  ·rw[aK]at hmk;rw[hmk];exact hw
 have h0:Hm zy:=λi k hk=>by
  exfalso;unfold zy at hk
  match i,hk with
  |0,q|1,q|2,q|3,q|4,q|5,q=>simp at q
  |i+6,q=>simp at q
 have hw:=zzx _ h0 hm;unfold xA at h⊢;generalize oG (l.flatMap iy) zy=p at*
 obtain⟨b,of⟩:=p;cases b with
 |false=>cases h
 | true=>
  simp only at h hw⊢;have ht:=zzy of 0 λi k hk=>by rw[(hw i k hk).1];omega
  have hmem:∀x,x∈of.filterMap id->jG x:=λx hx=>by
   obtain⟨i,hi⟩:=zGR hx;exact(hw i x hi).2
  generalize of.filterMap id=L at*
  rcases L with _|⟨t,_|⟨t',L⟩⟩
  ·simp at h
  ·exact hmem t (by simp)
  ·simp only;rw[mI];exact⟨rfl,hmem,.inr (.inr (.inr ⟨rfl,rfl,by simp[gq.kids],ht.1,λx hx=>by have:=ht.2 x hx;omega⟩))⟩
mutual
theorem zCW:∀t:gq,(lQ t).2=true->jG (lQ t).1
| .mk k n s l,h=>by
 rw[lQ]at h⊢;by_cases h5:5<=k/\k<=7
 ·rw [aC h5]at h⊢;by_cases hs:(mO l).2=true
  ·rw[aC hs]at h⊢;have ih:=zA9 l hs;unfold wH at h⊢;by_cases k5:k=5
   ·rw[aC k5]at h⊢;exact zIS s _ ih h
   ·by_cases k6:k=6
    ·rw[aB k5,aC k6]at h⊢;rw[mI];exact⟨rfl,ih,.inr (.inr (.inl ⟨rfl,rfl,by simp only[aI]at h;exact h⟩))⟩
    ·rw[aB k5,aB k6]at h⊢;exact zGS _ ih h
  ·rw[aB hs]at h;cases h
 ·rw[aB h5]at h⊢;by_cases h0:0<=k/\k<=4
  ·rw[aC h0];rw[mI];exact⟨rfl,(λx hx=>by cases hx),.inl ⟨h0.1,h0.2,rfl,rfl⟩⟩
  ·rw[aB h0]at h;cases h
theorem zA9:∀l:List gq,(mO l).2=true->∀x,x∈(mO l).1->jG x
|[],_,x,hx=>by rw[mO]at hx;cases hx
| t::l,h,x,hx=>by
 rw[mO]at h hx;by_cases ht:(lQ t).2=true
 ·rw[aC ht]at h hx;rcases aN.1 hx with rfl|hx
  ·exact zCW t ht
  ·exact zA9 l h x hx
 ·rw[aB ht]at h;cases h
end
theorem zBa{t:gq}(h:zz t=true):jG t/\lC t:=by
 unfold zz Di at h;split at h
 ·simp at h
 ·rename_i hs;split at h
  ·rename_i hn;simp only[decide_true,Bool.true_and,DJ]at h;have:=zCW t hn;rw[h]at this;exact⟨this,Qv t (by omega)⟩
  ·simp at h
end Go.Gr.P
namespace Go.Gr.P
open Go.Abs Go.Proofs
end Go.Gr.P
namespace Go.Gr.P
open Go.Abs Go.Proofs List
def nM(i:Nat):gq:=.mk (i+1) (bs []) [] (if i=5 then [qA 0,qA 0]else [])
def rE(t:gq)(i:Nat):Option gq:=(if t.kind=7 then t.kids else [t]).find? λx=>decide (iN x=i)
def kU(t:gq)(i:Nat):Option gq:=if t.kind=0 then some (nM i)else rE t i
def kd(t:gq)(j:Nat):gq:=t.kids.getD j (qA 0)
def mV(p:Int):Int:=if p%2=0 then p+1 else p-1
def vI(lo op:Bool)(m k:gq):List fI:=if op=true then m.names else if lo=true then k.names else k.names.filter λs=>decide (s∈m.names)
def kidO(t:gq)(s:fI):gq:=(wJ false t s).1
def rF(lb:Int)(m k:gq):List (fI × Int):=(k.names.filter λs=> !decide (s∈m.names)).map λs=>(s,lb)
def rG(v:gq->gq->Int->gy)(lo op:Bool)(m k:gq)(p:Int):List (fI × gy):=busy ((vI lo op m k).map λs=>(s,v (kidO m s) (kidO k s) p))
def ut(a b:gq)(p:Int)(i:Nat):Int:=match kU a i,kU b i with
|some _,none=>p
|_,_=>0
def xw(a b:gq)(p:Int):List (fI × Int):=match kU a 4,kU b 4 with
|some m,some k=>rF p m k
|_,_=>[]
def rH(v:gq->gq->Int->gy)(a b:gq)(p:Int):List (fI × gy):=match kU a 4,kU b 4 with
|some m,some k=>rG v (decide (a.kind=0)) (decide (b.kind=0)) m k p
|_,_=>[]
def xB(v:gq->gq->Int->gy)(a b:gq)(p:Int):List gy:=match kU a 5,kU b 5 with
|some m,some k=>lM (v (kd k 0) (kd m 0) (mV p)) (v (kd m 1) (kd k 1) p)
|_,_=>[]
def lF(a b:gq)(p:Int):List Int:=[ut a b p 0,ut a b p 1,ut a b p 2,ut a b p 3,ut a b p 4,ut a b p 5]
def rJ(v:gq->gq->Int->gy)(a b:gq)(p:Int):gy:=
 if a.kind=0/\b.kind=0 then idC else .mk (lF a b p) (xw a b p) ((rH v a b p).map (·.1)) ((rH v a b p).map (·.2)) (xB v a b p)
def uA:Nat->gq->gq->Int->gy
|0,_,_,_=>idC
|n+1,a,b,p=>rJ (uA n) a b p
def nJ(t:gq):Prop:=jG t/\lC t
theorem Qy:nJ (qA 0):=⟨zEQ,by rw[Kb];exact⟨by simp[qA,gq.kids],λx hx=>by cases hx⟩⟩
theorem Qz{t x:gq}(h:nJ t)(hx:x∈t.kids):nJ x:=⟨((mI t).1 h.1).2.1 x hx,((Kb t).1 h.2).2 x hx⟩
theorem zH9{t:gq}(h:nJ t){i:Nat}{k:gq}(hk:rE t i=some k):iN k=i/\nJ k/\k.kind≠7/\∀x,x∈k.kids->jD x<jD t:=by
 unfold rE at hk;have h1:=find?_some hk;have h2:=fB hk;simp only[aI]at h1;have h7:k.kind≠7:=λe=>by
  unfold iN at h1;rw[aC (by omega)]at h1;omega
 split at h2
 ·exact⟨h1,Qz h h2,h7,λx hx=>Nat.lt_trans (wV hx) (wV h2)⟩
 ·rw[aK]at h2;subst h2;exact⟨h1,h,h7,λx hx=>wV hx⟩
theorem zIa{i:Nat}(hi:i<6):iN (nM i)=i/\nJ (nM i)/\(nM i).kind≠7/\∀x,x∈(nM i).kids->x=qA 0:=by
 have hx:∀x,x∈(nM i).kids->x=qA 0:=λx hx=>by
  simp only[nM,gq.kids]at hx;split at hx<;>simp at hx;exact hx
 refine⟨?_,⟨?_,?_⟩,?_,hx⟩
 ·show(if((i:Int)+1<1\/6<(i:Int)+1)then(-1:Int)else(i:Int)+1-1)=i;rw[aB (by omega)];omega
 ·rw[mI];refine⟨rfl,λx h=>by rw[hx x h];exact zEQ,?_⟩;by_cases h5:i=5
  ·subst h5;exact .inr (.inr (.inl ⟨rfl,rfl,rfl⟩))
  ·by_cases h4:i=4
   ·subst h4;exact .inr (.inl ⟨rfl,rfl,by simp[nM,gq.names]⟩)
   ·refine .inl ⟨?_,?_,rfl,?_⟩
    ·simp only[nM,gq.kind];omega
    ·simp only[nM,gq.kind];omega
    ·simp[nM,gq.kids,h5]
 ·rw[Kb];refine⟨?_,λx h=>by rw[hx x h];exact Qy.2⟩;simp only[nM,gq.kids];split<;>simp
 ·simp only[nM,gq.kind];omega
theorem CO{t:gq}(h:nJ t){i:Nat}(hi:i<6){k:gq}(hk:kU t i=some k):iN k=i/\nJ k/\k.kind≠7/\∀x,x∈k.kids->(t.kind=0/\x=qA 0)\/(t.kind≠0/\jD x<jD t):=by
 unfold kU at hk;split at hk
 ·rename_i h0;simp only[af]at hk;subst hk;obtain⟨a1,a2,a3,a4⟩:=zIa hi;exact⟨a1,a2,a3,λx hx=>.inl ⟨h0,a4 x hx⟩⟩
 ·rename_i h0;obtain⟨a1,a2,a3,a4⟩:=zH9 h hk;exact⟨a1,a2,a3,λx hx=>.inr ⟨h0,a4 x hx⟩⟩
theorem zGY{k:gq}(s:fI):kidO k s∈k.kids\/kidO k s=qA 0:=by
 unfold kidO wJ;split
 ·simp only;by_cases q:(fi (λx=>decide (s=x)) 0 k.names).toNat<k.kids.length
  ·rw[aH,aA q];exact .inl (aP q)
  ·rw[aH,aS (by omega)];exact .inr rfl
 ·exact .inr rfl
theorem zIX(k:gq)(j:Nat):kd k j∈k.kids\/kd k j=qA 0:=by
 unfold kd;by_cases q:j<k.kids.length
 ·exact .inl (Kc q)
 ·rw[aH,aS (by omega)];exact .inr rfl
theorem zzB{k:gq}(h:nJ k)(s:fI):nJ (kidO k s):=by
 rcases zGY (k:=k) s with q|q
 ·exact Qz h q
 ·rw[q];exact Qy
theorem Ke{k:gq}(h:nJ k)(j:Nat):nJ (kd k j):=by
 rcases zIX k j with q|q
 ·exact Qz h q
 ·rw[q];exact Qy
theorem BL{k:gq}(h:nJ k):k.names.Pairwise jY/\k.names.length<=k.kids.length/\k.names.length<=200:=by
 have h2:=((Kb k).1 h.2).1;rcases((mI k).1 h.1).2.2 with q|q|q|q
 ·rw[q.2.2.1];simp
 ·exact⟨q.2.2,by omega,by omega⟩
 ·rw[q.2.1];simp
 ·rw[q.2.1];simp
theorem zCk{lo op:Bool}{m k:gq}:(vI lo op m k).Sublist m.names\/(vI lo op m k).Sublist k.names:=by
 unfold vI;split
 ·exact .inl (List.Sublist.refl _)
 ·split
  ·exact .inr (List.Sublist.refl _)
  ·exact .inr filter_sublist
theorem zz9{lo op:Bool}{m k:gq}(hm:nJ m)(hk:nJ k):(vI lo op m k).Pairwise jY/\(vI lo op m k).length<=200:=by
 rcases zCk (lo:=lo) (op:=op) (m:=m) (k:=k)with q|q
 ·exact⟨(BL hm).1.sublist q,ak q.length_le (BL hm).2.2⟩
 ·exact⟨(BL hk).1.sublist q,ak q.length_le (BL hk).2.2⟩
theorem zBk{α:Type}(q:α->Bool):∀(l:List α) (i:Nat) {j:Nat} (hj:j<l.length),q l[j]=true->(∀j' (h:j'<l.length),j'<j->q l[j']=false)->fi q i l=(i+j:Nat)
|x::l,i,0,_,h,_=>by
 rw[fi,aC (by simpa using h)];try rfl
|x::l,i,j+1,hj,h,hb=>by
 have h0:=hb 0 (by simp) (by omega);simp only[getElem_cons_zero]at h0;rw[fi,aB (by simp[h0]),zBk q l (i+1) (j:=j) (by simpa using hj) (by simpa using h) λj' h' hlt=>by have:=hb (j'+1) (by simpa using h') (by omega);simpa only[getElem_cons_succ]using this];omega
theorem zIY{l:List fI}(hn:l.Nodup){j:Nat}(hj:j<l.length):fi (λx=>decide (l[j]=x)) 0 l=(j:Nat):=by
 have:=zBk (λx=>decide (l[j]=x)) l 0 hj (by simp) λj' h' hlt=>by
  simp only[bM];intro e;exact(bZ.1 hn) j' j h' hj hlt e.symm
 simpa using this
theorem zBl{k:gq}(hn:k.names.Nodup){j:Nat}(hj:j<k.names.length)(hj':j<k.kids.length):kidO k k.names[j]=k.kids[j]:=by
 unfold kidO wJ;rw[zIY hn hj,aC (by omega)];simp[aH,hj']
theorem RA{l:List fI}{s:fI}:0<=fi (λx=>decide (s=x)) 0 l↔s∈l:=by
 rw[<-decide_eq_true_iff (p:=0<=fi (λx=>decide (s=x)) 0 l),Qm,any_eq_true];constructor
 ·rintro⟨x,hx,e⟩
  simp only[aI]at e;rw[e];exact hx
 ·intro h;exact⟨s,h,by simp⟩
theorem Kg{k:gq}{s:fI}(h:s∉k.names):kidO k s=qA 0:=by
 unfold kidO wJ;rw[aB (λe=>h (RA.1 e))]
theorem zG0{k:gq}(h:k.names=[])(s:fI):kidO k s=qA 0:=Kg (by rw[h];simp)
end Go.Gr.P
namespace Go.Gr.P
open Go.Abs Go.Proofs
theorem zCI{k:gq}(g:nJ k){s:fI}(h:s∈k.names):kidO k s∈k.kids:=by
 have h0:=RA.2 h;have h1:=Qx (λx=>decide (s=x)) k.names 0;have h2:=(BL g).2.1;unfold kidO wJ;rw[aC h0];simp only;exact Kc (by omega)
end Go.Gr.P
namespace Go.Gr.P
open Go.Abs Go.Proofs List
abbrev uI(T:List Int):Blk:=.arr 1 ((encI T).map (·.map .d))
theorem zDy(b f:D)(T:List Int)(hT:T.length=6)(l:List (fI × gy))(hn:(l.map (·.1)).Nodup)(hl:l.length<=1073741824):
  MCall Pg 105 [.c (.ptr 0 0),.c (.map 1)] [.box [.msl 1 2 0 6,.d b,.d (.sl true 1 []),.d (.sl true 5 []),.d f],.map (iQ l),uI T] (.tup [])
   [.box [.msl 1 2 0 6,.d b,.msl 1 3 0 (kT l (zco (l.map (·.1)))).length,.msl 5 4 0 (kT l (zco (l.map (·.1)))).length,.d f],.map (iQ l),uI T,
    .arr 1 ((encS ((kT l (zco (l.map (·.1)))).map (·.1))).map (·.map .d)),.arr 5 (((kT l (zco (l.map (·.1)))).map (·.2.enc)).map (·.map .d))]:=by
 refine ztc ⟨by simp,by simp,by simp,by simp,by simp,by simp,by simp[live];exact K3⟩ λts hts ok hb c hN hp=>?_;obtain⟨t0,t1,t2,rfl⟩:∃t u v,ts=[t,u,v]:=by
  match ts,hts with
  |[t,u,v],_=>exact⟨t,u,v,rfl⟩
 unfold QZ;simp;refine fo [.c 0 2,.c 0 3] ?_;simp;refine gY [1] (zAh l) (by simp;exactλa b h=>rA h) ?_;simp;refine gY [1,8] (zxK l hn hl) (by simp;exactλa b h=>rA h) ?_;simp;have hks:(zco (l.map (·.1))).length<=1073741824:=by simpa[zco]using hl
 have hmem:∀k,k∈zco (l.map (·.1))->k∈l.map (·.1):=λk hk=>Gl.1 hk;generalize zco (l.map (·.1))=ks at*
 refine fV iC hp El [11] (λj:Nat=>j<=ks.length) (λj=>[.c (.d (.int .i64 j))])
  (λj=>[.box [.msl 1 2 0 6,.d b,.msl 1 3 0 (kT l (ks.take j)).length,.msl 5 4 0 (kT l (ks.take j)).length,.d f],.map (iQ l),uI T,.arr 1 ((encS ((kT l (ks.take j)).map (·.1))).map (·.map .d)),.arr 5 (((kT l (ks.take j)).map (·.2.enc)).map (·.map .d)),.pin t0 0,.pin t1 1,.pin t2 2])
  (λj=>ks.length-j) 0 [0,1,2,6,7,3,4,5] (by simp) (by simp[El,kT,encS];exactλa b h=>rA h) λj h1=>?_
 unfold QY El;simp;apply gT<;>intro h
 ·have hj:j<ks.length:=by simpa using h
  simp[aA hj];obtain⟨i,hi⟩:=H8 (l:=l) 0 (hmem _ (aP hj));simp[hi];refine gp (yP _) ?_;have hs:=ZA (l:=l) hj;have hlen:=ZB l (ks.take j);rw[bH]at hlen;generalize sH l ks[j]=d at hs⊢;simp;apply gT<;>intro h
  ·simp at h;rw[h]at hs;simp at hs;refine⟨by omega,by omega,by decide,?_⟩;refine fJ (j+1) [0,1,2,9,10,5,6,7] (by omega) (by omega) ?_;simp[hs];refine⟨wI,λa b h=>rA h,?_,?_⟩
   ·rw[aD (by simp)]<;>simp[encS]
   ·rw[aD (by simp)]
  ·simp at h;rw[h]at hs;simp at hs;refine fJ (j+1) [0,1,2,3,4,5,6,7] (by omega) (by omega) ?_;simp[hs];exact⟨wI,λa b h=>rA h⟩
 ·have hj:j=ks.length:=by simp at h;omega
  subst hj;simp;exact fQ [0,1,2,3,4] [5,6,7]
theorem zHU(b s x:D)(T:List Int)(hT:T.length=6)(f g:gy):MCall Pg 99 [.c (.ptr 0 0),.ag (f.enc.map .d),.ag (g.enc.map .d)] [.box [.msl 1 1 0 6,.d b,.d s,.d x,.d (.sl true 5 [])],uI T] (.tup []) [.box [.msl 1 1 0 6,.d b,.d s,.d x,.d (.sl true 5 ((lM f g).map gy.enc))],uI T]:=by
 refine zvd mD λts hts ok hb c hN hp=>?_;obtain⟨t,u,rfl⟩:=GJ hts;unfold QW;simp;refine gp (yP f) ?_;simp;apply gT<;>intro h2
 ·simp at h2;refine gp (yP g) ?_;simp;apply gT<;>intro h3
  ·simp at h3;exact fT [0,1] [2,3] (by simp[lM,h2,h3])
  ·simp at h3;exact fT [0,1] [2,3] (by simp[lM,h2,h3])
 ·simp at h2;exact fT [0,1] [2,3] (by simp[lM,h2])
def nN(v:fI->gy)(ks:List fI):List (fI × gy):=ks.map λs=>(s,v s)
theorem Kh(v:fI->gy)(ks:List fI):(nN v ks).map (·.1)=ks:=by simp[nN,Function.comp_def]
theorem RB(v:fI->gy)(a b:List fI):nN v (a++b)=nN v a++nN v b:=by simp[nN]
theorem zCK{v:fI->gy}:∀{ks:List fI} {s:fI},s∈ks->sH (nN v ks) s=v s
| x::ks,s,h=>by
 simp only[nN,map_cons,sH];split
 ·rename_i e;rw[e]
 ·rename_i e;exact zCK (v:=v) ((aN.1 h).resolve_left e)
theorem zGr{v:fI->gy}{ks:List fI}(h:ks.Pairwise jY):kT (nN v ks) (zco ((nN v ks).map (·.1)))=busy (nN v ks):=by
 rw[Kh];have e:zco ks=ks:=P9 (Pb (rT h)) h λx=>Gl;rw[e];unfold kT busy;congr 1;exact bg λs hs=>by rw[zCK hs]
theorem RD(a b:List (fI × gy)):iQ (a++b)=iQ a++iQ b:=by simp[iQ]
theorem zGs{t:gq}{lb:Int}{d:gy}(h:gu Pg 62 [.agg t.enc,.agg (qA 0).enc,.one (.int .i64 lb)] (.agg d.enc)):gu Pg 62 [.agg t.enc,.agg [.int .i64 0,.str (bs []),.sl true 1 [],.sl true 4 []],.one (.int .i64 lb)] (.agg d.enc):=
 gu.erd h (by simp[DV.erds,DV.erd,gq.erdL,D.erdL,D.erd,D.erdE,qA,gq.enc,gq.encs,encS])
theorem zGt{t:gq}{lb:Int}{d:gy}(h:gu Pg 62 [.agg (qA 0).enc,.agg t.enc,.one (.int .i64 lb)] (.agg d.enc)):gu Pg 62 [.agg [.int .i64 0,.str (bs []),.sl true 1 [],.sl true 4 []],.agg t.enc,.one (.int .i64 lb)] (.agg d.enc):=
 gu.erd h (by simp[DV.erds,DV.erd,gq.erdL,D.erdL,D.erd,D.erdE,qA,gq.enc,gq.encs,encS])
abbrev Ki(m k:gq)(lo:Bool)(p:Int):List (Nat × AV):=[(0,.c (.ptr 0 0)),(3,.c (.d (.bool lo))),(5,.c (.d (.int .i64 p))),(7,.c (.d (.rp m.enc 0))),(8,.c (.d (.rp k.enc 0))),(12,.c (.map 4))]
abbrev Dj(nd:AC):Blk:=.box [.msl 1 1 0 6,nd,.d (.sl true 1 []),.d (.sl true 5 []),.d (.sl true 5 [])]
theorem RF{c:Ctx}(hp:c.pure)(V:fI->gy)(m k:gq)(hm:nJ m)(lo:Bool)(lb:Int)(T:List Int)(hT:T.length=6)(t0 t1:Nat × Nat)
  (H:∀s,s∈m.names->gu Pg 62 [.agg (kidO m s).enc,.agg (qA 0).enc,.one (.int .i64 lb)] (.agg (V s).enc)) {Q:Exit->St->Prop} {S:St} {g} {ms:List Nat}
  (h0:iM ms S ((23,.c (.d (.int .i64 0)))::(21,.c (.d (.sl false 1 (encS m.names))))::(22,.c (.d (.int .i64 m.names.length)))::Ki m k lo lb) [Dj (.d (.sl true 2 [])),uI T,.pin t0 0,.pin t1 1,.map (iQ [])])
  (hQ:∀T',Abs.look T' 0=.c (.ptr 0 0)->Abs.look T' 3=.c (.d (.bool lo))->Abs.look T' 5=.c (.d (.int .i64 lb))->Abs.look T' 7=.c (.d (.rp m.enc 0))->Abs.look T' 8=.c (.d (.rp k.enc 0))->Abs.look T' 12=.c (.map 4)->
   Q (.exit 0) ⟨T',hpOf [Dj (.d (.sl true 2 [])),uI T,.pin t0 0,.pin t1 1,.map (iQ (nN V m.names))],5⟩):lU Pg c QO Q g S:=by
 have hnm:=BL hm;have hnd:=rT hnm.1
 refine fU iC hp (λj:Nat=>j<=m.names.length) (λj=>(23,.c (.d (.int .i64 j)))::(21,.c (.d (.sl false 1 (encS m.names))))::(22,.c (.d (.int .i64 m.names.length)))::Ki m k lo lb)
  (λj=>[Dj (.d (.sl true 2 [])),uI T,.pin t0 0,.pin t1 1,.map (iQ (nN V (m.names.take j)))])
  (λj=>m.names.length-j) 0 ms (by simp) (by simpa[nN]using h0) λj h1=>?_
 unfold QO;simp;apply gT<;>intro h
 ·have hj:j<m.names.length:=by simpa using h
  have hj':j<m.kids.length:=by omega
  have hc:=H _ (aP hj);rw[zBl hnd hj hj']at hc;simp[aA hj,aA hj'];refine gp (zGs hc) ?_;have hk:m.names[j]∉(nN V (m.names.take j)).map (·.1):=by rw[Kh];exact Ee hnd hj
  simp[En 0 hk];refine fJ (j+1) [0,1,2,3,4] (by omega) (by omega) ?_;simp;refine⟨wI,?_,λa b h=>rA h⟩;rw[aJ hj,RB,RD];simp[nN,iQ]
 ·have hj:j=m.names.length:=by simp at h;omega
  subst hj;rw[bG];exact hQ _ (by simp) (by simp) (by simp) (by simp) (by simp) (by simp)
def uB(lo:Bool)(m:gq)(ks:List fI):List fI:=ks.filter λs=>lo||decide (s∈m.names)
def mP(m:gq)(ks:List fI):List fI:=ks.filter λs=> !decide (s∈m.names)
theorem Ho{c:Ctx}(hp:c.pure)(V:fI->gy)(m k:gq)(hm:nJ m)(hk:nJ k)(lo:Bool)(hlo:lo=true->m.names=[])(lb:Int)(T:List Int)(hT:T.length=6)(t0 t1:Nat × Nat)(l0:List (fI × gy))(hl0:k.names≠[]->l0=[])
  (H:∀s,s∈uB lo m k.names->gu Pg 62 [.agg (kidO m s).enc,.agg (kidO k s).enc,.one (.int .i64 lb)] (.agg (V s).enc)) {Q:Exit->St->Prop} {S:St} {g} {ms:List Nat}
  (h0:iM ms S ((42,.c (.d (.int .i64 0)))::(40,.c (.d (.sl false 1 (encS k.names))))::(41,.c (.d (.int .i64 k.names.length)))::Ki m k lo lb) [Dj (.msl 2 5 0 0),uI T,.pin t0 0,.pin t1 1,.map (iQ l0),.arr 2 []])
  (hQ:∀T',Abs.look T' 0=.c (.ptr 0 0)->Abs.look T' 12=.c (.map 4)->
   Q (.exit 2) ⟨T',hpOf [Dj (.msl 2 5 0 (mP m k.names).length),uI T,.pin t0 0,.pin t1 1,.map (iQ (l0++nN V (uB lo m k.names))),.arr 2 ((iF ((mP m k.names).map λs=>(s,lb))).map (·.map .d))],6⟩):lU Pg c QP Q g S:=by
 have hnm:=BL hm;have hnk:=BL hk;have hnd:=rT hnk.1
 refine fU iC hp (λj:Nat=>j<=k.names.length) (λj=>(42,.c (.d (.int .i64 j)))::(40,.c (.d (.sl false 1 (encS k.names))))::(41,.c (.d (.int .i64 k.names.length)))::Ki m k lo lb)
  (λj=>[Dj (.msl 2 5 0 (mP m (k.names.take j)).length),uI T,.pin t0 0,.pin t1 1,.map (iQ (l0++nN V (uB lo m (k.names.take j)))),.arr 2 ((iF ((mP m (k.names.take j)).map λs=>(s,lb))).map (·.map .d))])
  (λj=>k.names.length-j) 0 ms (by simp) (by simpa[nN,uB,mP,iF]using h0) λj h1=>?_
 unfold QP;simp;apply gT<;>intro h
 ·have hj:j<k.names.length:=by simpa using h
  have hj':j<k.kids.length:=by omega
  have e0:l0=[]:=hl0 λe=>by rw[e]at hj;simp at hj
  subst e0;have hc:=H k.names[j];rw[zBl hnd hj hj']at hc;have hidx:=zlP m.names k.names[j];have hmem:=RA (l:=m.names) (s:=k.names[j]);have hlt:=Qx (λx=>decide (k.names[j]=x)) m.names 0;have hkid:∀(n:Nat),fi (λx=>decide (k.names[j]=x)) 0 m.names=n->n<m.kids.length->kidO m k.names[j]=m.kids.getD n (qA 0):=λn e hn=>by
   unfold kidO wJ;rw[e,aC (by omega)];try rfl
  have hnk:k.names[j]∉(nN V (uB lo m (k.names.take j))).map (·.1):=by
   rw[Kh];exactλh=>Ee hnd hj (bB.1 h).1
  have htk:k.names.take (j+1)=k.names.take j++[k.names[j]]:=aJ hj;have hin:k.names[j]∈uB lo m k.names↔lo=true\/k.names[j]∈m.names:=by
   unfold uB;rw[bB];simp[aP hj]
  have hol:(mP m (k.names.take j)).length<=200:=by
   unfold mP;have:=bQ (λs=> !decide (s∈m.names)) (k.names.take j);simp only[bH]at this;omega
  simp[aA hj,aA hj'];refine gp hidx ?_;generalize hz:fi (λx=>decide (k.names[j]=x)) 0 m.names=z at*
  by_cases hs:k.names[j]∈m.names
  ·have hz0:=hmem.2 hs;obtain⟨n,rfl⟩:∃n:Nat,z=n:=⟨z.toNat,by omega⟩
   have hn:n<m.kids.length:=by omega
   have hc:=hc (hin.2 (.inr hs));rw[hkid n rfl hn,aH,aA hn]at hc;simp only[Option.getD_some]at hc;have ho:mP m (k.names.take (j+1))=mP m (k.names.take j):=by unfold mP;rw[htk,cB];simp[hs]
   have hi:uB lo m (k.names.take (j+1))=uB lo m (k.names.take j)++[k.names[j]]:=by unfold uB;rw[htk,cB];simp[hs]
   have hneg:¬((n:Int)<0):=by omega
   simp[hneg,aA hn,aA hj'];refine gp hc ?_;simp[En 0 hnk];refine⟨by decide,?_⟩;refine fJ (j+1) [0,1,2,3,4,5] (by omega) (by omega) ?_;rw[ho,hi,RB,RD];simp;exact⟨wI,by simp[nN,iQ],λa b h=>rA h,λa b h=>rA h⟩
  ·have hz0:¬0<=z:=λe=>hs (hmem.1 e);have hneg:z<0:=by omega
   have hge:¬z≥0:=hz0;have ho:mP m (k.names.take (j+1))=mP m (k.names.take j)++[k.names[j]]:=by unfold mP;rw[htk,cB];simp[hs]
   cases lo with
   |true=>
    have hc:=hc (hin.2 (.inl rfl));rw[Kg hs]at hc;have hi:uB true m (k.names.take (j+1))=uB true m (k.names.take j)++[k.names[j]]:=by unfold uB;rw[htk,cB];simp
    simp[hneg,hge,aA hj'];refine⟨by omega,?_⟩;refine gp (zGt hc) ?_;simp[En 0 hnk];refine fJ (j+1) [0,1,2,3,4,6] (by omega) (by omega) ?_;rw[ho,hi,RB,RD];simp;refine⟨wI,⟨by simp[nN,iQ],λa b h=>rA h,λa b h=>rA h⟩,?_⟩;rw[aD (by simp[iF])];simp[iF]
   |false=>
    have hi:uB false m (k.names.take (j+1))=uB false m (k.names.take j):=by unfold uB;rw[htk,cB];simp[hs]
    simp[hneg,hge];refine⟨by omega,?_⟩;refine fJ (j+1) [0,1,2,3,4,6] (by omega) (by omega) ?_;rw[ho,hi];simp;refine⟨wI,λa b h=>rA h,?_⟩;rw[aD (by simp[iF])];simp[iF]
 ·have hj:j=k.names.length:=by simp at h;omega
  subst hj;rw[bG];exact hQ _ (by simp) (by simp)
theorem zET(v:gq->gq->Int->gy)(lo op:Bool)(m k:gq)(p:Int):rG v lo op m k p=busy (nN (λs=>v (kidO m s) (kidO k s) p) (vI lo op m k)):=rfl
theorem zAE{c:Ctx}(V:fI->gy)(m k:gq)(ks:List fI)(hks:ks.Pairwise jY)(hkl:ks.length<=200)(nd:List (fI × Int))(hnd:nd.length<=200)(T:List Int)(hT:T.length=6)(t0 t1:Nat × Nat)(T':List (Nat × AV))(e0:Abs.look T' 0=.c (.ptr 0 0))(e12:Abs.look T' 12=.c (.map 4)):
  w_ Pg c (.fzq (.reg [⟨none,some 95,.mv (.t 0)⟩,⟨none,some 96,.mv (.t 12)⟩,⟨none,some 97,.callM 105 [(.t 95),(.t 96)]⟩]))
   (xH [] (.tup []) [.box [.msl 1 1 0 6,.d (.sl false 2 (iF nd)),.msl 1 2 0 (busy (nN V ks)).length,.msl 5 3 0 (busy (nN V ks)).length,.d (.sl true 5 [])],uI T,.arr 1 ((encS ((busy (nN V ks)).map (·.1))).map (·.map .d)),.arr 5 (((busy (nN V ks)).map (·.2.enc)).map (·.map .d))] [t0,t1]) ⟨⟩
   ⟨T',hpOf [Dj (.msl 2 5 0 nd.length),uI T,.pin t0 0,.pin t1 1,.map (iQ (nN V ks)),.arr 2 ((iF nd).map (·.map .d))],6⟩:=by
 have hf:=zDy (.sl false 2 (iF nd)) (.sl true 5 []) T hT (nN V ks) (by rw[Kh];exact rT hks) (by simp[nN];omega);rw[zGr hks]at hf;have htl:(iF nd).take nd.length=iF nd:=aD (by simp[iF]);simp;refine fe [5] ?_;simp[iT,e0,e12,htl];refine gY [0,4,1] hf (by simp;exact⟨λa b h=>rA h,htl⟩) ?_;simp;exact fQ [0,1,6,7] [2,3]
theorem zHV(v:gq->gq->Int->gy)(m k:gq)(hm:nJ m)(hk:nJ k)(lo op:Bool)(hop:op=true->k.names=[])(hlo:lo=true->m.names=[])(lb:Int)(T:List Int)(hT:T.length=6)
  (H:∀s,s∈vI lo op m k->gu Pg 62 [.agg (kidO m s).enc,.agg (kidO k s).enc,.one (.int .i64 lb)] (.agg (v (kidO m s) (kidO k s) lb).enc)):
  MCall Pg 100 [.c (.ptr 0 0),.ag (m.enc.map .d),.ag (k.enc.map .d),.c (.d (.bool lo)),.c (.d (.bool op)),.c (.d (.int .i64 lb))] [.box [.msl 1 1 0 6,.d (.sl true 2 []),.d (.sl true 1 []),.d (.sl true 5 []),.d (.sl true 5 [])],uI T] (.tup [])
   [.box [.msl 1 1 0 6,.d (.sl false 2 (iF (rF lb m k))),.msl 1 2 0 (rG v lo op m k lb).length,.msl 5 3 0 (rG v lo op m k lb).length,.d (.sl true 5 [])],uI T,.arr 1 ((encS ((rG v lo op m k lb).map (·.1))).map (·.map .d)),.arr 5 (((rG v lo op m k lb).map (·.2.enc)).map (·.map .d))]:=by
 refine zxk mD λts hts ok hb c hN hp=>?_;obtain⟨t0,t1,rfl⟩:=GJ hts;have hr:=zz9 (lo:=lo) (op:=op) hm hk;have hnk:=BL hk;have hns:rF lb m k=(mP m k.names).map λs=>(s,lb):=rfl;have hol:(mP m k.names).length<=200:=by
  unfold mP;have:=bQ (λs=> !decide (s∈m.names)) k.names;omega
 rw[hns,zET];unfold ztb;simp;cases op with
 |true=>
  have hk0:=hop rfl;have hkid:∀s,kidO k s=qA 0:=λs=>zG0 hk0 s;have hkeys:vI lo true m k=m.names:=rfl;have hin:uB lo m k.names=[]:=by rw[hk0];try rfl
  have hou:mP m k.names=[]:=by rw[hk0];try rfl
  rw[hkeys]at H hr⊢;simp;refine RF hp (λs=>v (kidO m s) (kidO k s) lb) m k hm lo lb T hT t0 t1 (λs hs=>by have:=H s hs;rw[hkid s]at this;rw[hkid s];exact this) (ms:=[0,1,2,3,4]) (by simp[iQ]) λT' e0 e3 e5 e7 e8 e12=>?_;simp[e0,e3,e5,e7,e8,e12];refine fo [.c 0 1] ?_;simp[e0,e3,e5,e7,e8,e12];refine Ho hp (λs=>v (kidO m s) (kidO k s) lb) m k hm hk lo hlo lb T hT t0 t1 (nN (λs=>v (kidO m s) (kidO k s) lb) m.names) (λe=>absurd hk0 e) (λs hs=>by rw[hin]at hs;cases hs) (ms:=[0,1,2,3,4,5]) (by simp[e0,e3,e5,e7,e8,e12];exactλa b h=>rA h) λT2 f0 f12=>?_;rw[hin];have e:nN (λs=>v (kidO m s) (kidO k s) lb) m.names++nN (λs=>v (kidO m s) (kidO k s) lb) []=nN (λs=>v (kidO m s) (kidO k s) lb) m.names:=by simp[nN]
  rw[e];have:=zAE (c:=c) (λs=>v (kidO m s) (kidO k s) lb) m k m.names hr.1 hr.2 ((mP m k.names).map λs=>(s,lb)) (by simpa using hol) T hT t0 t1 T2 f0 f12;simpa using this
 | false=>
  have hin:uB lo m k.names=vI lo false m k:=by
   unfold uB vI;cases lo<;>simp
  simp;refine fo [.c 0 1] ?_;simp;refine Ho hp (λs=>v (kidO m s) (kidO k s) lb) m k hm hk lo hlo lb T hT t0 t1 [] (λ_=>rfl) (λs hs=>by rw[hin]at hs;exact H s hs) (ms:=[0,1,2,3,4,5]) (by simp[iQ]) λT2 f0 f12=>?_;rw[hin,nil_append];have:=zAE (c:=c) (λs=>v (kidO m s) (kidO k s) lb) m k _ hr.1 hr.2 ((mP m k.names).map λs=>(s,lb)) (by simpa using hol) T hT t0 t1 T2 f0 f12;simpa using this
end Go.Gr.P
