/- Texts of ours, joined and written short by a program of ours. -/
import Derived.Test.YtlfjlokfciejnaaGreatDoorLLayS
import Derived.Test.YtlfjlokfciejnaaGreatDoorLSrt
import Derived.WalkKit
import Derived.Lib.Walk
import Derived.Test.YtlfjlokfciejnaaGreatDoorLJ19
import Derived.Test.YtlfjlokfciejnaaGreatDoorLJ16
import Derived.Shelf.SlSortCmp.NoneTotal
import Derived.Test.YtlfjlokfciejnaaGreatDoorLJ21
set_option maxRecDepth 20000
set_option maxHeartbeats 4000000
set_option linter.unusedVariables false
set_option linter.unusedSimpArgs false
namespace Go.Proofs
open Go.Shelf Go.RowKit Go.Lib Go.Sort
theorem Tryz.isNaN199(x:fF)(w:World):Calls Tryz.prog 199 #[.string x] w λe w'=>e=.returned (.bool false)/\w'=w:=by
 go_enter Tryz.func199,Tryz.ntmps199
 go_wp2
 go_ret
 exact⟨by simp,rfl⟩
def uA(x y:fF):Int:=if Op.bytesLess x.data.toList y.data.toList=true then -1 else if(!(Op.bytesLess x.data.toList y.data.toList||decide (x=y)))=true then 1 else 0
theorem znA(t:TypeId)(a b:fF):binOp .gtr t (.string a) (.string b)=pure (.bool (!(Op.bytesLess a.data.toList b.data.toList||decide (a=b)))):=by
 show Op.stringOp .gtr a b=_;unfold Op.stringOp;rw[Go.Abs.toList_inj,ByteArray.toList_eq,ByteArray.toList_eq]
theorem Tryz.compare185(x y:fF)(w:World):Calls Tryz.prog 185 #[.string x,.string y] w λe w'=>e=.returned (.int .i64 (uA x y))/\w'=w:=by
 have hg:=znA 9 x y
 go_enter Tryz.func185,Tryz.ntmps185
 go_wp2_with (go_at_call 199;refine(Tryz.isNaN199 _ _).mono ?_;rintro e w' ⟨rfl,hw⟩;rw[hw])
 ·rename_i h;rw[ByteArray.toList_eq,ByteArray.toList_eq]at h
  go_ret
  exact⟨by unfold uA;rw[aC h];rfl,rfl⟩
 ·rename_i h2;have hL:Op.bytesLess x.data.toList y.data.toList=false:=by simpa using h2.1
  have he:¬x=y:=by simpa using h2.2
  go_ret
  exact⟨by unfold uA;rw[hL];simp[he],rfl⟩
 ·rename_i h1 h2;rw[ByteArray.toList_eq,ByteArray.toList_eq]at h1;have he:x=y:=by simpa[h1]using h2
  go_ret
  exact⟨by unfold uA;rw[h1];simp[he],rfl⟩
structure uB where
 name:fF
 a:Value
 b:Value
 c:Value
 d:Value
 h:a.oneCell'=true/\b.oneCell'=true/\c.oneCell'=true/\d.oneCell'=true
def kw(x:uB):List Value:=[.string x.name,x.a,x.b,x.c,x.d]
theorem Tryz.closure184(x y:uB)(W:World):Calls Tryz.prog 184 #[.agg (kw x).toArray,.agg (kw y).toArray] W λe w'=>e=.returned (.int .i64 (uA x.name y.name))/\∃q os',w'=grow (W.drewN q) os':=by
 have hcon:=λW'=>Tryz.compare185 x.name y.name W';change∀W',Calls Tryz.prog 185 _ _ _ at hcon;generalize uA x.name y.name=r at hcon⊢;unfold kw
 go_enter Tryz.func184,Tryz.ntmps184
 go_wp2_with (go_at_call 185;refine(hcon _).mono ?_;rintro e w' ⟨rfl,rfl⟩)
 go_ret
 exact⟨rfl,0,_,by rw[alloc_eq_grow,alloc_eq_grow,grow_grow];rfl⟩
instance:Inhabited uB:=⟨⟨⟨#[]⟩,.bool false,.bool false,.bool false,.bool false,⟨rfl,rfl,rfl,rfl⟩⟩⟩
def Jv(x y:uB):Int:=uA x.name y.name
theorem zoh(x y:uB):ltOf Jv x y=Op.bytesLess x.name.data.toList y.name.data.toList:=by
 unfold ltOf Jv uA;by_cases h:Op.bytesLess x.name.data.toList y.name.data.toList=true
 ·rw[aC h,h];try rfl
 ·rw[aB h];simp only[aM]at h;rw[h];by_cases e:x.name=y.name<;>simp[e]
theorem znW(x y:uB):ltOf Jv x y=decide (Go.Gr.jw x.name y.name):=by
 rw[zoh,Go.Gr.JR];try rfl
theorem zm3(x:uB):∀v,v∈kw x->v.oneCell'=true:=λv hv=>by
 obtain⟨h1,h2,h3,h4⟩:=x.h;simp only[kw,aN,List.not_mem_nil,dR]at hv;rcases hv with rfl|rfl|rfl|rfl|rfl
 ·rfl
 ·exact h1
 ·exact h2
 ·exact h3
 ·exact h4
def Bw(ns:List fF)(i j:Nat):Int:=uA (ns.getD i ⟨#[]⟩) (ns.getD j ⟨#[]⟩)
def kJ(ns:List fF):Array Nat:=pdq (ltOf (Bw ns)) (Array.range ns.length) 0 (Array.range ns.length).size (Lib.bitLen (Array.range ns.length).size) true true
theorem Jw(ns:List fF)(i j:Nat):ltOf (Bw ns) i j=decide (Go.Gr.jw (ns.getD i ⟨#[]⟩) (ns.getD j ⟨#[]⟩)):=by
 have h:=znW ⟨ns.getD i ⟨#[]⟩,.bool false,.bool false,.bool false,.bool false,⟨rfl,rfl,rfl,rfl⟩⟩ ⟨ns.getD j ⟨#[]⟩,.bool false,.bool false,.bool false,.bool false,⟨rfl,rfl,rfl,rfl⟩⟩;unfold ltOf Jv at h;unfold ltOf Bw;exact h
theorem Gg(ns:List fF):SWO (ltOf (Bw ns)) where
 irrefl x:=by rw[Jw];simpa using Go.Gr.Br _
 trans x y z h1 h2:=by rw[Jw]at*;simp at*;exact Go.Gr.zh h1 h2
 ntrans x y z h1 h2:=by
  rw[Jw]at*
  simp only[bV]at*
  intro h;by_cases e:ns.getD y ⟨#[]⟩=ns.getD z ⟨#[]⟩
  ·rw[<-e]at h;exact h1 h
  ·cases Go.Gr.EQ e with
   |inl k=>exact h2 k
   |inr k=>exact h1 (Go.Gr.zh h k)
theorem zkZ(ns:List fF):PermIn 0 (Array.range ns.length).size (Array.range ns.length) (kJ ns)/\SortedIn (ltOf (Bw ns)) 0 (Array.range ns.length).size (kJ ns):=
 pdq_sorts (ltOf (Bw ns)) (Gg ns) _ 0 _ _ true true (dH _) (aP _) (Or.inl rfl)
theorem Gh(ns:List fF):(kJ ns).toList.Perm (List.range ns.length):=by
 obtain⟨h1,_,h3⟩:=(zkZ ns).1;simp only[Array.size_range]at h1 h3;have e1:(kJ ns).extract 0 ns.length=kJ ns:=by
  rw[<-h1];simp
 have e2:(Array.range ns.length).extract 0 ns.length=Array.range ns.length:=by
  apply Array.ext<;>simp
 rw[e1,e2]at h3;simpa using h3
theorem Tryz.sortN(ns:List fF)(F:Nat->uB)(hF:∀i,(F i).name=ns.getD i ⟨#[]⟩)(blk off cap:Nat)(w:World)(hH:HoldsK (λi=>kw (F i)) 5 w blk off (Array.range ns.length))(hblk:blk<w.heap.size)(hsz:ns.length<4611686018427387904):
  Calls Tryz.prog 183 #[.slice (some ⟨blk,off,none⟩) ns.length cap,.func (.func 184) #[] #[]] w λe w'=>
   e=.returned (.tuple #[])/\∃n os,w'=sortWorldK (λi=>kw (F i)) 5 w blk off n (kJ ns) os:=by
 have eg:∀args w,(callFunc 184 args).run Tryz.prog w=.ok (.enter 184 args) w:=enters_of Tryz.func184 (by kernel_rfl) rfl;have hc:CmpLays Tryz.prog 184 #[] (λi=>kw (F i)) 5 (Bw ns) blk off (Array.range ns.length).size w:=λm os dk _ x y=>by
  have h:=Tryz.closure184 (F x) (F y) (sortWorldK (λi=>kw (F i)) 5 w blk off m dk os);rw[hF,hF]at h;exact h
 have h:=AnyQ.slices_SortFunc_eq Tryz.sort183 5 Tryz.isAgg237 Tryz.sizeOf237 (λi=>kw (F i)) (λ_=>rfl) (λi=>zm3 (F i)) (Bw ns) (Gg ns) 184 #[] blk off cap (Array.range ns.length) w eg hc hH hblk (by simpa using hsz);have e:(Array.range ns.length).size=ns.length:=by simp
 unfold kJ;rw[e]at h⊢;exact h
end Go.Proofs
namespace Go.Gr.P
open Go.Abs Go.Proofs Go.RowKit Go.Sort Go.Shelf Go.Lib List
theorem Po{h:PH}{ρ:RM}:∀{e:List AC} {vs:List Value},iG h ρ e vs↔∀k (hk:k<e.length),∃v,vs[k]?=some v/\v.one1=true/\RepC h ρ e[k] v
|[],vs=>by simp[iG]
|c::e,[]=>by
 simp only[iG,getElem?_nil,false_iff];intro q;obtain⟨v,h,_⟩:=q 0 (by simp);cases h
| c::e,v::vs=>by
 simp only[iG];rw[Po (e:=e) (vs:=vs)];constructor
 ·rintro⟨⟨h1,h2⟩,h3⟩ k hk
  cases k with
  |zero=>exact⟨v,rfl,h1,h2⟩
  |succ k=>simpa using h3 k (by simpa using hk)
 ·intro q;obtain⟨v',e1,e2,e3⟩:=q 0 (by simp);simp only[getElem?_cons_zero,ai]at e1;subst e1;refine⟨⟨e2,e3⟩,λk hk=>?_⟩;exact q (k+1) (by simpa using hk)
theorem Pp{h:PH}{ρ:RM}{s:Nat}:∀{es:List (List AC)} {vs:List Value},iP h ρ s es vs↔∀i (hi:i<es.length),es[i].length=s/\iG h ρ es[i] (vs.drop (i*s))
|[],vs=>by simp[iP]
| e::es,vs=>by
 simp only[iP];rw[Pp (es:=es) (vs:=vs.drop s)];have key:∀i,(vs.drop s).drop (i*s)=vs.drop ((i+1)*s):=λi=>by rw[bQ,bB,bg,dF]
 constructor
 ·rintro⟨h1,h2,h3⟩ i hi
  cases i with
  |zero=>simpa using ⟨h1,h2⟩
  |succ i=>
   have:=h3 i (by simpa using hi);rw[key]at this;simpa using this
 ·intro q;have q0:=q 0 (by simp);refine⟨by simpa using q0.1,by simpa using q0.2,λi hi=>?_⟩;rw[key];exact q (i+1) (by simpa using hi)
def ky(x:fF × List D):List AC:=.d (.str x.1)::x.2.map .d
def uq(v:Value):Value:=if v.oneCell' then v else .bool false
theorem Jy(v:Value):(uq v).oneCell'=true:=by
 unfold uq;split
 ·assumption
 ·rfl
theorem znB(v:Value):v.one1=v.oneCell':=by cases v<;>rfl
theorem Jz{v:Value}(h:v.one1=true):uq v=v:=by rw[znB]at h;simp[uq,h]
def oW(ns:List fF)(vs:List Value)(i:Nat):uB:=
⟨ns.getD i ⟨#[]⟩,uq (vs.getD (i*5+1) undef),uq (vs.getD (i*5+2) undef),uq (vs.getD (i*5+3) undef),uq (vs.getD (i*5+4) undef),⟨Jy _,Jy _,Jy _,Jy _⟩⟩
def mr(xs:List (fF × List D)):List (fF × List D):=(kJ (xs.map (·.1))).toList.map λi=>xs.getD i (⟨#[]⟩,[])
theorem zlv(xs:List (fF × List D)):(mr xs).Perm xs:=by
 have h:=(Gh (xs.map (·.1))).map λi=>xs.getD i (⟨#[]⟩,[]);refine h.trans ?_;have:(range (xs.map (·.1)).length).map (λi=>xs.getD i (⟨#[]⟩,[]))=xs:=by
  apply ext_getElem
  ·simp
  ·intro i h1 h2;simp[getD,h2]
 rw[this]
theorem Gi(xs:List (fF × List D)):(mr xs).length=xs.length:=(zlv xs).length_eq
theorem zhZ{h:PH}{ρ:RM}{xs:List (fF × List D)}(h4:∀x,x∈xs->x.2.length=4){vs:List Value}(r:iP h ρ 5 (xs.map ky) vs){i k:Nat}(hi:i<xs.length)(hk:k<5):
  vs[i*5+k]?=some ((kw (oW (xs.map (·.1)) vs i))[k]!)/\((kw (oW (xs.map (·.1)) vs i))[k]!).one1=true/\∀(hq:k<(ky xs[i]).length),RepC h ρ (ky xs[i])[k] ((kw (oW (xs.map (·.1)) vs i))[k]!):=by
 have q:=(Pp.1 r) i (by simpa using hi);simp only[getElem_map]at q;have hl:(ky xs[i]).length=5:=q.1;obtain⟨v,e1,e2,e3⟩:=Po.1 q.2 k (by omega);rw[az]at e1;have key:(kw (oW (xs.map (·.1)) vs i))[k]! =v:=by
  have hv:vs.getD (i*5+k) undef=v:=by simp[getD,e1]
  rcases(show k=0\/k=1\/k=2\/k=3\/k=4 by omega)with rfl|rfl|rfl|rfl|rfl
  ·simp only[ky,getElem_cons_zero,RepC,RepD]at e3;simp[kw,oW,getD,hi,e3.1]
  ·simp only[kw,oW,hv,Jz e2];rfl
  ·simp only[kw,oW,hv,Jz e2];rfl
  ·simp only[kw,oW,hv,Jz e2];rfl
  ·simp only[kw,oW,hv,Jz e2];rfl
 rw[key];exact⟨e1,e2,λ_=>e3⟩
theorem put_get{vs:List Value}{d:Array Value}{t:Nat}(h:t<d.size)(hv:t<vs.length):(putCells id 0 d vs.toArray).toList[t]?=some d[t]! :=by
 simp[putCells,h,hv]
theorem Pq(ns:List fF):(kJ ns).size=ns.length:=by
 have:=(Gh ns).length_eq;simpa using this
theorem znX(ns:List fF){i:Nat}(hi:i<ns.length):(kJ ns)[i]! <ns.length:=by
 have hs:=Pq ns;have:(kJ ns)[i]! ∈(kJ ns).toList:=by
  rw[getElem!_pos _ i (by omega)];simp
 simpa using (Gh ns).mem_iff.1 this
theorem zm6(xs:List (fF × List D)){i:Nat}(hi:i<(mr xs).length):∃hj:(kJ (xs.map (·.1)))[i]! <xs.length,(mr xs)[i]=xs[(kJ (xs.map (·.1)))[i]!]:=by
 have hi':i<xs.length:=by rw[Gi]at hi;exact hi
 have hs:=Pq (xs.map (·.1));simp only[aV]at hs;have hlt:=znX (xs.map (·.1)) (i:=i) (by simpa using hi');simp only[aV]at hlt;refine⟨hlt,?_⟩;have e:(mr xs)[i]?=some xs[(kJ (xs.map (·.1)))[i]!]:=by
  have e1:(kJ (xs.map (·.1))).toList[i]?=some (kJ (xs.map (·.1)))[i]! :=by
   rw[getElem!_pos _ i (by omega)];simp
  unfold mr;rw[getElem?_map,e1];simp[getD,hlt]
 rw[aA hi]at e;exact bR e
theorem zlf{h:PH}{ρ:RM}{xs:List (fF × List D)}(h4:∀x,x∈xs->x.2.length=4){vs:List Value}(hvl:xs.length*5<=vs.length)(r:iP h ρ 5 (xs.map ky) vs):
  iP h ρ 5 ((mr xs).map ky) (putCells id 0 (flatK (λi=>kw (oW (xs.map (·.1)) vs i)) 5 (kJ (xs.map (·.1)))) vs.toArray).toList:=by
 have hs:=Pq (xs.map (·.1));simp only[aV]at hs;refine Pp.2 λi hi=>?_;have hi':i<(mr xs).length:=by simpa using hi
 have hin:i<xs.length:=by rw[Gi]at hi';exact hi'
 obtain⟨hj,e⟩:=zm6 xs hi';have hl:(ky xs[(kJ (xs.map (·.1)))[i]!]).length=5:=by
  simp[ky,h4 _ (aO hj)]
 simp only[getElem_map,e];refine⟨hl,Po.2 λk hk=>?_⟩;have hk5:k<5:=by omega
 obtain⟨_,q2,q3⟩:=zhZ h4 r hj hk5;refine⟨_,?_,q2,q3 hk⟩;rw[az,put_get (by simp[hs];omega) (by omega),get_flatK _ _ _ _ (by rw[hs];omega),show(i*5+k)/5=i by omega,show(i*5+k)%5=k by omega]
theorem zlg{h:PH}{ρ:RM}{xs:List (fF × List D)}(h4:∀x,x∈xs->x.2.length=4){vs:List Value}(r:iP h ρ 5 (xs.map ky) vs){w:World}{B:Nat}{T:TypeId}(hw:w.heap[B]?=some (.cells vs.toArray T (0,0))):
  HoldsK (λi=>kw (oW (xs.map (·.1)) vs i)) 5 w B 0 (Array.range (xs.map (·.1)).length):=λj hj=>by
 have hj':j<xs.length*5:=by simpa using hj
 have hd:j/5<xs.length:=by omega
 obtain⟨q1,_,_⟩:=zhZ h4 r hd (k:=j%5) (by omega);rw[show j/5*5+j%5=j by omega]at q1;rw[get_flatK _ _ _ _ (by simpa using hj')];have e:(Array.range (xs.map (·.1)).length)[j/5]! =j/5:=by simp[hd]
 rw[e];refine⟨?_,by simp[World.frozen?,hw]⟩;simp only[World.cell?,hw,Nat.zero_add,id];simpa using q1
theorem znk(L:Nat->Bool):∀l:List D,AC.lvs L (l.map .d)=true
|[]=>by simp[AC.lvs]
|d::l=>by simp[AC.lvs,AC.lv,znk L l]
theorem znw(L:Nat->Bool)(x:fF × List D):AC.lvs L (ky x)=true:=by
 simp[ky,AC.lvs,AC.lv,znk]
theorem znx(b c:Blk):upd (hpOf [b]) 0 c=hpOf [c]:=by
 funext i;cases i with
 |zero=>simp[upd]
 |succ i=>simp[upd]
theorem zln{α:Type} [Inhabited α](enc:α->List Value)(k:Nat)(w:World)(B n:Nat)(d:Array α)(os:Array Obj){vs:Array Value}{T:TypeId}(hw:w.heap[B]?=some (.cells vs T (0,0))):
  (sortWorldK enc k w B 0 n d os).heap=w.heap.setIfInBounds B (.cells (putCells id 0 (flatK enc k d) vs) T (0,0))++os:=by
 simp only[sortWorldK,putRowK,putRow,mapBlock,Go.Sort.grow,Go.Sort.ahead];congr 1;apply Array.ext_getElem?;intro i;simp only[Array.getElem?_modify,Array.getElem?_setIfInBounds];by_cases hi:B=i
 ·subst hi;have hlt:B<w.heap.size:=by
   rcases aW B w.heap.size with q|q
   ·exact q
   ·rw[ak q]at hw;cases hw
  rw[bK hlt]at hw;have hw:=bR hw;simp[hlt,hw,onCells]
 ·simp[hi]
theorem zjX(xs:List (fF × List D))(h4:∀x,x∈xs->x.2.length=4)(h0:0<xs.length)(hl:xs.length<=1073741824):
  MCall Pg 183 [.c (.msl 5 0 0 xs.length),.c (.d (.fn (.func 184) []))] [.arr 5 (xs.map ky)] (.tup []) [.arr 5 ((mr xs).map ky)]:=by
 refine⟨by decide+kernel,aP _,BS (by simp),by simp,by simp[znw],λh ρ w argsC K _ r=>?_⟩
 match argsC,r with
 | [v1,v2],r=>
  simp only[zai,RepV,RepC,RepD,and_true]at r;obtain⟨⟨p,a,e1,e2,e3,e4,e5⟩,us,f1,f2,f3⟩:=r;have us0:us=[]:=aU.1 (by simpa using f2);subst us0;subst f1;have hpo:=K.own 0 p e1;simp only[RS]at hpo;have hx:xs.map ky≠[]:=by
   intro q;have:=dL length q;simp only[aV,length_nil]at this;omega
  rcases hpo with⟨_,q⟩|⟨vs,T,hw,hvl,hel,hlm,rce⟩
  ·exact absurd q hx
  have hel':xs.length<=p.2:=by simpa using hel
  have hp2:0<p.2:=by omega
  obtain rfl:=e4 hp2;have hB:p.1<w.heap.size:=by
   rcases aW p.1 w.heap.size with q|q
   ·exact q
   ·rw[ak q]at hw;cases hw
  have hvl':xs.length*5<=vs.length:=by rw[hvl];exact bi 5 hel'
  subst e2;have hsz:(xs.map (·.1)).length<4611686018427387904:=by rw[aV];omega
  have hs:=Tryz.sortN (xs.map (·.1)) (oW (xs.map (·.1)) vs) (λi=>rfl) p.1 0 (p.2-0) w (zlg h4 rce hw) hB hsz;simp only[aV]at hs;refine hs.mono λe w' q=>?_;obtain⟨rfl,n,os,rfl⟩:=q;have hrep:=zlf h4 hvl' rce;have hheap:=zln (λi=>kw (oW (xs.map (·.1)) vs i)) 5 w p.1 n (kJ (xs.map (·.1))) os hw;have hcl:(putCells id 0 (flatK (λi=>kw (oW (xs.map (·.1)) vs i)) 5 (kJ (xs.map (·.1)))) vs.toArray).toList.length=p.2*5:=by simp[putCells,hvl]
  generalize putCells id 0 (flatK (λi=>kw (oW (xs.map (·.1)) vs i)) 5 (kJ (xs.map (·.1)))) vs.toArray=cs at*
  have hbr:zaI h ρ p (.arr 5 ((mr xs).map ky)) (w.heap.setIfInBounds p.1 (.cells cs T (0,0))):=by
   refine .inr ⟨cs.toList,T,by simp[hB],hcl,by simpa[Gi]using hel',by simpa[Gi]using hlm,hrep⟩
  have hreal:Real (hpOf [Blk.arr 5 (xs.map ky)] 0) p:=hp2;obtain⟨K1,S1⟩:=K.set (.cells cs T (0,0)) e1 hreal (blk:=.arr 5 ((mr xs).map ky)) (by simp) hbr;rw[znx]at K1 S1;have hold:∀B,B<(w.heap.setIfInBounds p.1 (.cells cs T (0,0))).size->(w.heap.setIfInBounds p.1 (.cells cs T (0,0))++os)[B]?=(w.heap.setIfInBounds p.1 (.cells cs T (0,0)))[B]?:=λB hB=>Array.getElem?_append_left hB
  have K2:HRel h ρ (hpOf [Blk.arr 5 ((mr xs).map ky)]) (w.heap.setIfInBounds p.1 (.cells cs T (0,0))++os):=
   K1.grow (fZ h) (λB o e=>by rw[hold B (K1.lt e)];exact K1.pers B o e) λB hB _=>⟨hold B hB,rfl⟩
  have S2:Step h ρ (hpOf [Blk.arr 5 ((mr xs).map ky)]) (w.heap.setIfInBounds p.1 (.cells cs T (0,0))) h ρ (hpOf [Blk.arr 5 ((mr xs).map ky)]) (w.heap.setIfInBounds p.1 (.cells cs T (0,0))++os):=
   ⟨fZ h,λB hB _=>rfl,fe _,by simp,λB hB _=>hold B hB,λb p e hr=>.inr ⟨b,p,e,hr,rfl⟩⟩
  refine⟨.tuple #[],h,ρ,rfl,?_,?_,⟨rfl,rfl,rfl⟩,⟨[],rfl,by simp[zai]⟩,λ_ _=>rfl⟩
  ·rw[hheap];exact S1.wk.trans S2
  ·rw[hheap];exact K2
theorem zjY:MCall Pg 183 [.c (.msl 5 0 0 0),.c (.d (.fn (.func 184) []))] [.arr 5 []] (.tup []) [.arr 5 []]:=by
 refine⟨by decide+kernel,aP _,BS (by simp),by simp,by simp,λh ρ w argsC K _ r=>?_⟩
 match argsC,r with
 |[v1,v2],r=>
  simp only[zai,RepV,RepC,RepD,and_true]at r;obtain⟨⟨p,a,e1,e2,e3,e4,e5⟩,us,f1,f2,f3⟩:=r;subst e2;have hs:=AnyF.slices_SortFunc_none (P:=Tryz.prog) (ρ:=Tryz.sort183_ren) {Tryz.sort183 with} a (p.2-0) v2 w;refine Calls.mono hs λe w' q=>?_;obtain⟨rfl,rfl⟩:=q;exact⟨.tuple #[],h,ρ,rfl,(Step.refl _ _ _ _).wk,K,⟨rfl,rfl,rfl⟩,⟨[],rfl,by simp[zai]⟩,λ_ _=>rfl⟩
theorem zkJ(xs:List (fF × List D))(h4:∀x,x∈xs->x.2.length=4)(hl:xs.length<=1073741824):
  MCall Pg 183 [.c (.msl 5 0 0 xs.length),.c (.d (.fn (.func 184) []))] [.arr 5 (xs.map ky)] (.tup []) [.arr 5 ((mr xs).map ky)]:=by
 rcases Nat.eq_zero_or_pos xs.length with h0|h0
 ·have e:xs=[]:=aU.1 h0;have e2:mr xs=[]:=aU.1 (by rw[Gi];exact h0);rw[e2,e];exact zjY
 ·exact zjX xs h4 h0 hl
end Go.Gr.P
namespace Go.Gr.P
open Go.Abs Go.Proofs List
def noT:gU:=.mk 0 (bs []) [] []
def oC(xs:List (fF × gU)):List (fF × gU):=(kJ (xs.map (·.1))).toList.map λi=>xs.getD i (⟨#[]⟩,noT)
theorem Ps(xs:List (fF × gU)):(oC xs).Perm xs:=by
 have h:=(Gh (xs.map (·.1))).map λi=>xs.getD i (⟨#[]⟩,noT);refine h.trans ?_;have:(range (xs.map (·.1)).length).map (λi=>xs.getD i (⟨#[]⟩,noT))=xs:=by
  apply ext_getElem
  ·simp
  ·intro i h1 h2;simp[getD,h2]
 rw[this]
def uC(x:fF × gU):fF × List D:=(x.1,x.2.enc)
theorem zlR(xs:List (fF × gU)){i:Nat}(hi:i<xs.length):(xs.map uC).getD i (⟨#[]⟩,[])=uC (xs.getD i (⟨#[]⟩,noT)):=by
 simp[getD,hi]
attribute [local irreducible] kJ in
theorem zlS(xs:List (fF × gU)):mr (xs.map uC)=(oC xs).map uC:=by
 have e:(xs.map uC).map (·.1)=xs.map (·.1):=by simp[uC]
 have hp:=Gh (xs.map (·.1));unfold mr oC;rw[e];generalize (kJ (xs.map (·.1))).toList=l at hp⊢;rw[bn];refine bf λi hi=>?_;have hi':=hp.mem_iff.1 hi;simp only[mem_range,aV]at hi';exact zlR xs hi'
def rM(l:List fF)(j:Nat):Bool:=decide (j=0)|| !decide (l.getD (j-1) ⟨#[]⟩=l.getD j ⟨#[]⟩)
def sM(l:List fF):Bool:=(range l.length).all (rM l)
def nA(ns:List fF)(ts:List gU):gU × Bool:=
 if ns.length≠ts.length\/16<ns.length then(noT,false)
 else if ns.all BF=true/\sM ((oC (ns.zip ts)).map (·.1))=true then(.mk 5 (bs []) ((oC (ns.zip ts)).map (·.1)) ((oC (ns.zip ts)).map (·.2)),true)
 else(noT,false)
abbrev x9(ns:List fF)(ts:List gU)(j:Nat):List (Nat × AV):=[(1,.c (.d (.sl false 4 (ts.map gU.enc)))),(4,.c (.ptr 0 0)),(6,.c (.msl 5 1 0 j)),(23,.c (.d (.sl false 1 (encS ns)))),(24,.c (.d (.int .i64 ns.length))),(25,.c (.d (.int .i64 j)))]
def lQ(x:fF × gU):List D:=.str x.1::x.2.enc
abbrev ug(xs:List (fF × gU)):Blk:=.arr 5 ((xs.map lQ).map (·.map .d))
theorem zkv(xs:List (fF × gU)):(xs.map uC).map ky=(xs.map lQ).map (·.map .d):=by
 rw[bn,bn];try rfl
theorem spl(n:fF)(t:gU):splice [AC.d (D.str n),AC.d (D.int IntKind.i64 0),AC.d (D.str (bs [])),AC.d (D.sl true 1 []),AC.d (D.sl true 4 [])] 1 (List.map AC.d t.enc)=(lQ (n,t)).map .d:=by
 obtain⟨k,m,s,l⟩:=t;simp[splice,gU.enc,lQ]
theorem zmQ(x:fF × gU):(lQ x).length=5:=by
 obtain⟨n,⟨k,m,s,l⟩⟩:=x;simp[gU.enc,lQ]
theorem zob{c:Ctx}(hp:c.pure)(ns:List fF)(ts:List gU)(hn:ns.length=ts.length)(h16:ns.length<=16){Q:Exit->St->Prop}{S:St}{g}{ms:List Nat}
  (h0:iM ms S (x9 ns ts 0) [mY,ug []])
  (hF:ns.all BF=false->∀T M n,Abs.look T 4=.c (.ptr 0 0)->Abs.look T 5=.c (.d (.bool false))->M 0=mY->Q .ret ⟨T,M,n⟩)
  (hQ:ns.all BF=true->∀T,Abs.look T 4=.c (.ptr 0 0)->Abs.look T 6=.c (.msl 5 1 0 ns.length)->
   Q (.exit 0) ⟨T,hpOf [mY,ug (ns.zip ts)],2⟩):mV Pg c PO Q g S:=by
 refine fP gz hp (λj:Nat=>j<=ns.length/\(ns.take j).all BF=true) (λj=>x9 ns ts j)
  (λj=>[mY,ug ((ns.zip ts).take j)]) (λj=>ns.length-j) 0 ms ⟨by simp,by simp⟩ (by simpa using h0) λj ⟨h1,h2⟩=>?_
 unfold PO;simp;apply gN<;>intro h
 ·have hj:j<ns.length:=by simpa using h
  have ht:j<ts.length:=by omega
  simp[aA hj,encS];refine gT (Ic ns[j]) ?_;simp;apply gN<;>intro hb
  ·simp at hb;refine hF ?_ _ _ _ (by simp) (by simp) (by simp);rw[all_eq_false];exact⟨ns[j],aO hj,by simp[hb]⟩
  ·simp at hb;have hz:j<(ns.zip ts).length:=by simp[length_zip];omega
   have htk:(ns.zip ts).take (j+1)=(ns.zip ts).take j++[(ns[j],ts[j])]:=by
    rw[aJ hz,getElem_zip]
   have hall:(ns.take (j+1)).all BF=true:=by
    rw[aJ hj,all_append,h2];simp[hb]
   simp[aA ht,spl,zmQ];refine⟨by omega,by omega,?_⟩;refine fG (j+1) [0,2] ⟨by omega,hall⟩ (by omega) ?_;rw[htk];simp;refine⟨wI,by rw[take_take,dz];exact⟨rfl,rfl⟩,λx hx=>?_⟩;obtain⟨y,_,rfl⟩:=aY.1 (bL hx);simp
 ·have hj:j=ns.length:=by simp at h;omega
  subst hj;simp only[bO]at h2;have hz:(ns.zip ts).take ns.length=ns.zip ts:=aD (by simp[length_zip];omega);rw[hz];exact hQ h2 _ (by simp) (by simp)
abbrev znr(xs:List (fF × gU))(j:Nat):List (Nat × AV):=[(4,.c (.ptr 0 0)),(6,.c (.d (.sl false 5 (xs.map lQ)))),(9,.c (.ptr 2 0)),(47,.c (.d (.sl false 5 (xs.map lQ)))),(48,.c (.d (.int .i64 xs.length))),(49,.c (.d (.int .i64 j)))]
abbrev Gj(xs:List (fF × gU))(j:Nat):List Blk:=[mY,.dead,.box [.d (.int .i64 5),.d (.str (bs [])),.msl 1 3 0 j,.msl 4 4 0 j],.arr 1 (((xs.take j).map λx=>[D.str x.1]).map (·.map .d)),.arr 4 (((xs.take j).map λx=>x.2.enc).map (·.map .d))]
theorem znN{c:Ctx}(hp:c.pure)(xs:List (fF × gU))(h16:xs.length<=16){Q:Exit->St->Prop}{S:St}{g}{ms:List Nat}
  (h0:iM ms S (znr xs 0) (Gj xs 0))
  (hF:sM (xs.map (·.1))=false->∀T M n,Abs.look T 4=.c (.ptr 0 0)->Abs.look T 5=.c (.d (.bool false))->M 0=mY->Q .ret ⟨T,M,n⟩)
  (hQ:sM (xs.map (·.1))=true->∀T,Abs.look T 4=.c (.ptr 0 0)->Abs.look T 9=.c (.ptr 2 0)->
   Q (.exit 2) ⟨T,hpOf (Gj xs xs.length),5⟩):mV Pg c PP Q g S:=by
 refine fP gz hp (λj:Nat=>j<=xs.length/\(range j).all (rM (xs.map (·.1)))=true) (λj=>znr xs j)
  (λj=>Gj xs j) (λj=>xs.length-j) 0 ms ⟨by simp,by simp⟩ (by simpa using h0) λj ⟨h1,h2⟩=>?_
 unfold PP;simp;apply gN<;>intro h
 ·have hj:j<xs.length:=by simpa using h
  have hadj:rM (xs.map (·.1)) j=false->sM (xs.map (·.1))=false:=λe=>by
   unfold sM;rw[all_eq_false];exact⟨j,by simpa using hj,by simp[e]⟩
  have hnext:rM (xs.map (·.1)) j=true->(range (j+1)).all (rM (xs.map (·.1)))=true:=λe=>by
   rw[range_succ,all_append,h2];simp[e]
  have htk:xs.take (j+1)=xs.take j++[xs[j]]:=aJ hj;rcases hx:xs[j]with⟨nm,⟨k,m,s,l⟩⟩;rw[hx]at htk;rcases Nat.eq_zero_or_pos j with h0j|h0j
  ·subst h0j;have hu:rM (xs.map (·.1)) 0=true:=by simp[rM]
   simp[aA hj,hx,lQ,gU.enc,cut];refine⟨by decide,by decide,fG 1 [0,1,2,6,7] ⟨by omega,hnext hu⟩ (by omega) ?_⟩;have htk':xs.take 1=[(nm,.mk k m s l)]:=by simpa using htk
   unfold Gj;simp only[htk'];simp[gU.enc];decide
  ·have hi:j-1<xs.length:=by omega
   have hwr:IntKind.i64.wrap ((j:Int)-1)=((j-1:Nat):Int):=by rw[show((j:Int)-1)=((j-1:Nat):Int) by omega];exact wI
   rcases hy:xs[j-1]with⟨nm2,⟨k2,m2,s2,l2⟩⟩;have hu:rM (xs.map (·.1)) j= !decide (nm2=nm):=by
    simp[rM,getD,hj,hi,hx,hy];omega
   simp[aA hj,aA hi,hx,hy,hwr,h0j,lQ,gU.enc,cut];refine⟨by decide,gN (λhb=>?_) (λhb=>?_)⟩
   ·exact hF (hadj (by rw[hu];simpa using hb)) _ _ _ (by simp) (by simp) (by simp)
   ·refine⟨by omega,by omega,by omega,by omega,by decide,?_⟩;refine fG (j+1) [0,1,2,6,7] ⟨by omega,hnext (by rw[hu];simpa using hb)⟩ (by omega) ?_;unfold Gj;simp only[htk];simp[gU.enc];refine⟨wI,⟨by rw[take_take,dz],λx hx=>?_⟩,by rw[take_take,dz],λx hx=>?_⟩
    ·obtain⟨y,_,rfl⟩:=aY.1 (bL hx);simp
    ·obtain⟨y,_,rfl⟩:=aY.1 (bL hx);simp
 ·have hj:j=xs.length:=by simp at h;omega
  subst hj;exact hQ (by unfold sM;rw[aV];exact h2) _ (by simp) (by simp)
theorem Mg(ns:List fF)(ts:List gU):gY Pg 166 [.one (.sl false 1 (encS ns)),.one (.sl false 4 (ts.map gU.enc))] (.tup [.agg (nA ns ts).1.enc,.one (.bool (nA ns ts).2)]):=by
 refine zhD (by simp) λo c hN hp=>?_;have hl1:ns.length<=zah:=by
  have:=o.1;simp only[DV.ok,D.ok,encS,aV]at this;exact this.1
 have hl2:ts.length<=zah:=by
  have:=o.2.1;simp only[DV.ok,D.ok,aV]at this;exact this.1
 unfold zah at hl1 hl2;unfold Z9;simp;apply gN<;>intro h
 ·have hn:ns.length=ts.length:=by simp at h;omega
  apply gN<;>intro h2
  ·have e:nA ns ts=(noT,false):=by
    unfold nA;rw[aC (.inr (by simp at h2;omega))]
   rw[e];simp[noT,gU.enc,gU.encs,encS]
  ·have h16:ns.length<=16:=by simp at h2;omega
   refine fV [.t 6] ?_;simp;refine zob hp ns ts hn h16 (ms:=[0,1]) (by simp) (λhf T M n e4 e5 m0=>?_) λht T e4 e6=>?_
   ·have e:nA ns ts=(noT,false):=by
     unfold nA;rw[aB (by omega),aB (by simp[hf])]
    rw[e];simp[e4,e5,m0,noT,gU.enc,gU.encs,encS]
   ·simp[e4,e6];have hs:=zkJ ((ns.zip ts).map uC) (λx hx=>by
     obtain⟨y,_,rfl⟩:=aY.1 hx;obtain⟨_,⟨k,n,s,l⟩⟩:=y
     simp[uC,gU.enc]) (by simp[length_zip];omega)
    rw[aV,length_zip,<-hn,dz,zlS,zkv,zkv]at hs;refine gP [1] hs ?_;have hrec:nA ns ts=if sM ((oC (ns.zip ts)).map (·.1))=true then(.mk 5 (bs []) ((oC (ns.zip ts)).map (·.1)) ((oC (ns.zip ts)).map (·.2)),true)else(noT,false):=by
     unfold nA;rw[aB (by omega)];simp only[ht,true_and]
    have hxl:(oC (ns.zip ts)).length=ns.length:=by rw[(Ps _).length_eq,length_zip];omega
    clear hs;rw[hrec];generalize oC (ns.zip ts)=xs at*
    have h16':xs.length<=16:=by omega
    rw[<-hxl]at e6⊢;simp;refine fU [1] ?_;simp[iZ,e4,e6];refine fV [.c 2 2,.c 2 3] ?_;have htl:take xs.length (xs.map lQ)=xs.map lQ:=aD (by simp);simp[iZ,e4,e6,htl];refine znN hp xs h16' (ms:=[0,1,2,3,4]) (by simp[iZ,e4,e6,htl]) (λhf T M n e4 e5 m0=>?_) λha T e4 e9=>?_
    ·rw[aB (by simp[hf])];simp[e4,e5,m0,noT,gU.enc,gU.encs,encS]
    ·rw[aC ha];simp[e4,e9,gU.enc,gU.encs,encS];refine⟨?_,?_⟩
     ·rw[aD (by simp)];try rfl
     ·rw[aD (by simp),gU.encs_map,bn];try rfl
 ·have e:nA ns ts=(noT,false):=by
   unfold nA;rw[aC (.inl (by simp at h;omega))]
  rw[e];simp[noT,gU.enc,gU.encs,encS]
def wK(k:Int)(s:List fF)(l:List gU):gU × Bool:=
 if k=5 then nA s l else if k=6 then(.mk 6 (bs []) [] l,decide (l.length=2))else xA l
mutual
def lY:gU->gU × Bool
|.mk k _ s l=>if 5<=k/\k<=7 then(if(mJ l).2=true then wK k s (mJ l).1 else(noT,false))else if 0<=k/\k<=4 then(.mk k (bs []) [] [],true)else(noT,false)
def mJ:List gU->List gU × Bool
|[]=>([],true)
|t::l=>if(lY t).2=true then((lY t).1::(mJ l).1,(mJ l).2)else([],false)
end
theorem zmz(t:gU):lY t=if 5<=t.kind/\t.kind<=7 then(if(mJ t.kids).2=true then wK t.kind t.names (mJ t.kids).1 else(noT,false))else if 0<=t.kind/\t.kind<=4 then(.mk t.kind (bs []) [] [],true)else(noT,false):=by
 cases t;rw[lY];try rfl
abbrev yj(t:gU)(j:Nat):List (Nat × AV):=[(1,.c (.d (.rp t.enc 0))),(2,.c (.ptr 0 0)),(4,.c (.msl 4 1 0 j)),(18,.c (.d (.sl false 4 (t.kids.map gU.enc)))),(19,.c (.d (.int .i64 t.kids.length))),(20,.c (.d (.int .i64 j)))]
abbrev DY(l:List gU):List Blk:=[mY,.arr 4 ((l.map gU.enc).map (·.map .d))]
theorem Cw{c:Ctx}(hp:c.pure)(t:gU)(hl:t.kids.length<=1000)(ih:∀e,e∈t.kids->gY Pg 143 [.agg e.enc] (.tup [.agg (lY e).1.enc,.one (.bool (lY e).2)])){Q:Exit->St->Prop}{S:St}{g}{ms:List Nat}
  (h0:iM ms S (yj t 0) (DY []))
  (hF:(mJ t.kids).2=false->∀T M n,Abs.look T 2=.c (.ptr 0 0)->Abs.look T 3=.c (.d (.bool false))->M 0=mY->Q .ret ⟨T,M,n⟩)
  (hQ:(mJ t.kids).2=true->∀T,Abs.look T 1=.c (.d (.rp t.enc 0))->Abs.look T 2=.c (.ptr 0 0)->Abs.look T 4=.c (.msl 4 1 0 (mJ t.kids).1.length)->
   Q (.exit 0) ⟨T,hpOf (DY (mJ t.kids).1),2⟩):mV Pg c PL Q g S:=by
 refine fP gz hp (λx:Nat × List gU=>x.1<=t.kids.length/\x.2.length=x.1/\mJ t.kids=(x.2++(mJ (t.kids.drop x.1)).1,(mJ (t.kids.drop x.1)).2)) (λx=>yj t x.1)
  (λx=>DY x.2) (λx=>t.kids.length-x.1) (0,[]) ms ⟨by simp,rfl,by simp⟩ h0 λ⟨j,acc⟩ ⟨h1,h3,h2⟩=>?_
 unfold PL;simp only at h1 h2 h3;simp;apply gN<;>intro h
 ·have hj:j<t.kids.length:=by simpa using h
  rw[aG hj,mJ]at h2;have hc:∀e:gU,cut e.enc 0 4=e.enc:=λe=>by unfold cut;simp
  have hc2:∀e:gU,cut (e.enc.map AC.d) 0 4=e.enc.map AC.d:=λe=>by unfold cut;simp
  simp[aA hj,hc,hc2];refine gT (ih _ (aO hj)) ?_;simp[hc,hc2];apply gN<;>intro hb
  ·simp at hb;rw[aB (by simp[hb])]at h2;refine hF (by rw[h2]) _ _ _ (by simp) (by simp) (by simp)
  ·simp at hb;rw[aC hb]at h2;refine⟨by omega,by omega,?_⟩;refine fG (j+1,acc++[(lY t.kids[j]).1]) [0,4] ⟨by simp only;omega,by simp[h3],by rw[h2];simp⟩ (by simp;omega) ?_;simp;exact⟨wI,aD (by simp;omega)⟩
 ·have hj:j=t.kids.length:=by simp at h;omega
  subst hj;rw[aQ,mJ]at h2;simp only[bM]at h2;rw[h2]at hQ;have:=hQ rfl;simp only[h3]at this;exact this _ (by simp) (by simp) (by simp)
theorem zn7(t:gU)(hk:t.kind=5)(hl:t.kids.length<=1000)(ih:∀e,e∈t.kids->gY Pg 143 [.agg e.enc] (.tup [.agg (lY e).1.enc,.one (.bool (lY e).2)])):
  gY Pg 143 [.agg t.enc] (.tup [.agg (if(mJ t.kids).2=true then nA t.names (mJ t.kids).1 else(noT,false)).1.enc,.one (.bool (if(mJ t.kids).2=true then nA t.names (mJ t.kids).1 else(noT,false)).2)]):=by
 refine Jm (by simp) λo c hN hp=>?_;unfold Ga;simp[hk];refine fV [.t 4] ?_;simp[hk];refine Cw hp t hl ih (ms:=[0,1]) (by simp) (λhf T M n e2 e3 m0=>?_) λha T e1 e2 e4=>?_
 ·rw[aB (by simp[hf])];simp[e2,e3,m0,noT,gU.enc,gU.encs,encS]
 ·rw[aC ha];simp[e1,e2,e4,hk];generalize (mJ t.kids).1=l at*
  refine fU [1] ?_;have htl:take l.length (l.map gU.enc)=l.map gU.enc:=aD (by simp);simp[iZ,e1,e2,e4,htl];refine gT (Mg t.names l) ?_;have hc:∀e:gU,cut e.enc 0 4=e.enc:=λe=>by unfold cut;simp
  simp[iZ,e1,e2,e4,htl,hc]<;>(rw[gU.enc_eq];simp[D.er])
theorem zn8(t:gU)(hk:t.kind=7)(hl:t.kids.length<=1000)(ih:∀e,e∈t.kids->gY Pg 143 [.agg e.enc] (.tup [.agg (lY e).1.enc,.one (.bool (lY e).2)])):
  gY Pg 143 [.agg t.enc] (.tup [.agg (if(mJ t.kids).2=true then xA (mJ t.kids).1 else(noT,false)).1.enc,.one (.bool (if(mJ t.kids).2=true then xA (mJ t.kids).1 else(noT,false)).2)]):=by
 refine Jm (by simp) λo c hN hp=>?_;unfold Ga;simp[hk];refine fV [.t 4] ?_;simp[hk];refine Cw hp t hl ih (ms:=[0,1]) (by simp) (λhf T M n e2 e3 m0=>?_) λha T e1 e2 e4=>?_
 ·rw[aB (by simp[hf])];simp[e2,e3,m0,noT,gU.enc,gU.encs,encS]
 ·rw[aC ha];simp[e1,e2,e4,hk];generalize (mJ t.kids).1=l at*
  refine fU [1] ?_;have htl:take l.length (l.map gU.enc)=l.map gU.enc:=aD (by simp);simp[iZ,e1,e2,e4,htl];refine gT (Mj l) ?_;have hc:∀e:gU,cut e.enc 0 4=e.enc:=λe=>by unfold cut;simp
  simp[iZ,e1,e2,e4,htl,hc]<;>(rw[gU.enc_eq];simp[D.er])
theorem zn9(t:gU)(hk:t.kind=6)(hl:t.kids.length<=1000)(ih:∀e,e∈t.kids->gY Pg 143 [.agg e.enc] (.tup [.agg (lY e).1.enc,.one (.bool (lY e).2)])):
  gY Pg 143 [.agg t.enc] (.tup [.agg (if(mJ t.kids).2=true then(gU.mk 6 (bs []) [] (mJ t.kids).1,decide ((mJ t.kids).1.length=2))else(noT,false)).1.enc,.one (.bool (if(mJ t.kids).2=true then(gU.mk 6 (bs []) [] (mJ t.kids).1,decide ((mJ t.kids).1.length=2))else(noT,false)).2)]):=by
 refine Jm (by simp) λo c hN hp=>?_;unfold Ga;simp[hk];refine fV [.t 4] ?_;simp[hk];refine Cw hp t hl ih (ms:=[0,1]) (by simp) (λhf T M n e2 e3 m0=>?_) λha T e1 e2 e4=>?_
 ·rw[aB (by simp[hf])];simp[e2,e3,m0,noT,gU.enc,gU.encs,encS]
 ·rw[aC ha];simp[e1,e2,e4,hk];generalize (mJ t.kids).1=l at*
  refine fU [1] ?_;have htl:take l.length (l.map gU.enc)=l.map gU.enc:=aD (by simp);simp[iZ,e1,e2,e4,htl];simp[gU.enc,gU.encs_map,encS,D.er];omega
end Go.Gr.P
namespace Go.Gr.P
open Go.Abs Go.Proofs
mutual
def lG:gU->Prop
|.mk _ _ _ l=>l.length<=200/\qz l
def qz:List gU->Prop
|[]=>True
|t::l=>lG t/\qz l
end
theorem Io:∀l:List gU,qz l↔∀x,x∈l->lG x
|[]=>by simp[qz]
|t::l=>by simp[qz,Io l]
theorem KA(t:gU):lG t↔t.kids.length<=200/\∀x,x∈t.kids->lG x:=by
 cases t;simp only[lG,Io,gU.kids]
theorem znZ(t:gU):1<=si t:=by
 have key:∀(l:List gU) (n:Nat),n<=mq l n:=λl=>by
  induction l with
  |nil=>intro n;rw[mq];omega
  |cons t l ih=>intro n;rw[mq];split;omega;have:=ih (n+si t);omega
 rw[Gf];have:=key t.kids 1;omega
theorem zjL:∀(l:List gU) (n:Nat),n<=200->mq l n<=200->n+l.length<=200/\∀x,x∈l->si x<=200
|[],n,hn,_=>⟨by simpa using hn,λx hx=>by cases hx⟩
| t::l,n,hn,h=>by
 rw[mq,aB (by omega)]at h;have h1:=znZ t;by_cases q:n+si t<=200
 ·obtain⟨p1,p2⟩:=zjL l (n+si t) q h;refine⟨by simp only[List.length_cons];omega,λx hx=>?_⟩;rcases aN.1 hx with rfl|hx
  ·omega
  ·exact p2 x hx
 ·rw[zlB (by omega)]at h;omega
mutual
theorem Pt:∀t:gU,si t<=200->lG t
|.mk k n s l,h=>by
 rw[Gf]at h;simp only[gU.kids]at h;obtain⟨p1,p2⟩:=zjL l 1 (by omega) (by omega);rw[lG];exact⟨by omega,zjM l p2⟩
theorem zjM:∀l:List gU,(∀x,x∈l->si x<=200)->qz l
|[],_=>by rw[qz];trivial
|t::l,h=>by
 rw[qz];exact⟨Pt t (h t (by simp)),zjM l λx hx=>h x (by simp[hx])⟩
end
theorem zog(t:gU)(h5:¬(5<=t.kind/\t.kind<=7)):
  gY Pg 143 [.agg t.enc] (.tup [.agg (if 0<=t.kind/\t.kind<=4 then(gU.mk t.kind (bs []) [] [],true)else(noT,false)).1.enc,.one (.bool (if 0<=t.kind/\t.kind<=4 then(gU.mk t.kind (bs []) [] [],true)else(noT,false)).2)]):=by
 refine Jm (by simp) λo c hN hp=>?_;have hw:=t.enc_eq;unfold Ga;by_cases hk:0<=t.kind/\t.kind<=4
 ·rw[aC hk];have hk:t.kind=0\/t.kind=1\/t.kind=2\/t.kind=3\/t.kind=4:=by omega
  rcases hk with hk|hk|hk|hk|hk<;>simp[hk,gU.enc,gU.encs,encS]
 ·rw[aB hk];have n0:¬t.kind=0:=by omega
  have n1:¬t.kind=1:=by omega
  have n2:¬t.kind=2:=by omega
  have n3:¬t.kind=3:=by omega
  have n4:¬t.kind=4:=by omega
  have n5:¬t.kind=5:=by omega
  have n6:¬t.kind=6:=by omega
  have n7:¬t.kind=7:=by omega
  by_cases g:5<=t.kind
  ·have g':¬t.kind<=7:=by omega
   simp[g,g',n0,n1,n2,n3,n4,n5,n6,n7,noT,gU.enc,gU.encs,encS]
  ·simp[g,n0,n1,n2,n3,n4,n5,n6,n7,noT,gU.enc,gU.encs,encS]
theorem Mo(t:gU)(hl:t.kids.length<=1000)(ih:∀e,e∈t.kids->gY Pg 143 [.agg e.enc] (.tup [.agg (lY e).1.enc,.one (.bool (lY e).2)])):
  gY Pg 143 [.agg t.enc] (.tup [.agg (lY t).1.enc,.one (.bool (lY t).2)]):=by
 rw[zmz];by_cases h5:5<=t.kind/\t.kind<=7
 ·rw[aC h5];unfold wK;by_cases k5:t.kind=5
  ·rw[aC k5];exact zn7 t k5 hl ih
  ·by_cases k6:t.kind=6
   ·rw[aB k5,aC k6];exact zn9 t k6 hl ih
   ·rw[aB k5,aB k6];exact zn8 t (by omega) hl ih
 ·rw[aB h5];exact zog t h5
mutual
theorem FY:∀t:gU,lG t->gY Pg 143 [.agg t.enc] (.tup [.agg (lY t).1.enc,.one (.bool (lY t).2)])
|.mk k n s l,h=>by
 rw[lG]at h;exact Mo (.mk k n s l) (by simp only[gU.kids];omega) (λe he=>FZ l h.2 e he)
theorem FZ:∀l:List gU,qz l->∀e,e∈l->gY Pg 143 [.agg e.enc] (.tup [.agg (lY e).1.enc,.one (.bool (lY e).2)])
|[],_,e,he=>by cases he
|t::l,h,e,he=>by
 rw[qz]at h;cases he with
 |head=>exact FY t h.1
 |tail _ he=>exact FZ l h.2 e he
end
def DZ(t:gU):gU × Int:=if 16<hgt 16 t\/200<si t then(noT,9)else if(lY t).2=true then((lY t).1,0)else(noT,9)
theorem Ae(t:gU):gY Pg 95 [.agg t.enc] (.tup [.agg (DZ t).1.enc,.one (.int .i64 (DZ t).2)]):=by
 refine zjm (by simp) λo c hN hp=>?_;unfold ZT DZ;have he:noT.enc=[.int .i64 0,.str (bs []),.sl false 1 [],.sl false 4 []]:=rfl;simp;refine gT (FV t) ?_;simp;apply gN<;>intro h1
 ·simp at h1;refine gT (zi5 t) ?_;simp;apply gN<;>intro h2
  ·simp at h2;rw[aC (by omega)];simp[he]
  ·simp at h2;rw[aB (by omega)];refine gT (FY t (Pt t (by omega))) ?_;simp;apply gN<;>intro h3
   ·simp at h3;simp[h3,he]
   ·simp at h3;simp[h3]<;>(rw[gU.enc_eq];simp[D.er])
 ·simp at h1;rw[aC (by omega)];simp[he]
def zy(t:gU):Bool:=decide ((DZ t).2=0)&&lC (DZ t).1 t
theorem zzM(t:gU):gY Pg 61 [.agg t.enc] (.one (.bool (zy t))):=by
 refine zyk (by simp) λo c hN hp=>?_;unfold ZF zy;simp;refine gT (Ae t) ?_;simp;apply gN<;>intro h
 ·simp at h;refine gT (Ju _ t) ?_;simp[h]
 ·simp at h;simp[h]
theorem gY.erdV{P:Program}{f:FuncId}{args:List DV}{v v':DV}(h:gY P f args v)(e:v.erd=v'):gY P f args v':=by
 subst e;refine⟨h.1,λph w us hp hG r=>(h.2 ph w us hp hG r).mono λe w' q=>?_⟩;obtain⟨vC,h',q1,q2,q3,q4,q5,q6,q7,q8⟩:=q;exact⟨vC,h',q1,q2,q3,q4,q5,q6,q7,kQ.erd q8⟩
abbrev Pv:Blk:=.box [.msl 1 1 0 6,.d (.sl true 2 []),.d (.sl true 1 []),.d (.sl true 5 []),.d (.sl true 5 [])]
def qB(k:Int):gU:=.mk k (bs []) [] []
theorem AZ:∀l:List fF,D.erdE (encS l)=encS l
|[]=>rfl
|s::l=>by
 have ih:=AZ l;simp only[encS,List.map_cons,D.erdE,D.erdL,D.erd]at ih⊢;rw[ih]
mutual
theorem gU.erdL:∀t:gU,D.erdL t.enc=t.enc
|.mk k n s l=>by
 simp only[gU.enc,D.erdL,D.erd,AZ,gU.erdE l]
theorem gU.erdE:∀l:List gU,D.erdE (gU.encs l)=gU.encs l
|[]=>rfl
|t::l=>by simp only[gU.encs,D.erdE,gU.erdL t,gU.erdE l]
end
def lit(k:Int)(l:List (List D)):List D:=[.int .i64 k,.str (bs []),.sl true 1 [],.sl true 4 l]
def wL(op:Bool)(k:gU)(s:fF):gU × Bool:=
 if 0<=fi (λx=>decide (s=x)) 0 k.names then(k.kids.getD (fi (λx=>decide (s=x)) 0 k.names).toNat (qB 0),true)else(qB 0,op)
theorem Pw{α:Type}(q:α->Bool):∀(l:List α) (j:Nat),fi q j l<(j+l.length:Nat)
|[],j=>by simp[fi];omega
|x::l,j=>by
 rw[fi];split
 ·simp;omega
 ·have:=Pw q l (j+1);simp at this⊢;omega
mutual
def jK:gU->Prop
|.mk k nm s l=>nm=bs []/\lU l/\((0<=k/\k<=4/\s=[]/\l=[])\/(k=5/\s.length=l.length/\s.Pairwise jw)\/(k=6/\s=[]/\l.length=2)\/(k=7/\s=[]/\2<=l.length/\(l.map iJ).Pairwise (· < ·)/\∀x,x∈l->0<=iJ x))
def lU:List gU->Prop
|[]=>True
|t::l=>jK t/\lU l
end
theorem zZ:∀l:List gU,lU l↔∀x,x∈l->jK x
|[]=>by simp[lU]
|t::l=>by simp[lU,zZ l]
theorem mH(t:gU):jK t↔t.name=bs []/\(∀x,x∈t.kids->jK x)/\((0<=t.kind/\t.kind<=4/\t.names=[]/\t.kids=[])\/(t.kind=5/\t.names.length=t.kids.length/\t.names.Pairwise jw)\/(t.kind=6/\t.names=[]/\t.kids.length=2)\/(t.kind=7/\t.names=[]/\2<=t.kids.length/\(t.kids.map iJ).Pairwise (· < ·)/\∀x,x∈t.kids->0<=iJ x)):=by
 cases t;simp only[jK,zZ,gU.kind,gU.name,gU.names,gU.kids]
mutual
def jL:gU->Nat
|.mk _ _ _ l=>jg l+1
def jg:List gU->Nat
|[]=>0
|t::l=>max (jL t) (jg l)
end
theorem Bf:∀{l:List gU} {x:gU},x∈l->jL x<=jg l
|t::l,x,h=>by
 rw[jg];rcases aN.1 h with rfl|h
 ·omega
 ·have:=Bf h;omega
theorem wY{t x:gU}(h:x∈t.kids):jL x<jL t:=by
 cases t with
 |mk a b c l=>have:=Bf (l:=l) h;rw[jL];omega
end Go.Gr.P
namespace Go.Gr.P
open Go.Abs Go.Proofs List
theorem Bg{k:gU}(h:jK k)(h7:k.kind≠7):(k.names.length=k.kids.length\/k.names=[])/\k.names.length<=k.kids.length/\(iJ k=5->k.kids.length=2):=by
 have h:=((mH k).1 h).2.2;rcases h with⟨a,b,c,d⟩|⟨a,b,c⟩|⟨a,b,c⟩|⟨a,_⟩
 ·refine⟨.inr c,by rw[c];simp,λe=>?_⟩;unfold iJ at e;split at e<;>omega
 ·refine⟨.inl b,by omega,λe=>?_⟩;unfold iJ at e;split at e<;>omega
 ·exact⟨.inr b,by rw[b];simp,λ_=>c⟩
 ·exact absurd a h7
theorem zEQ:jK (qB 0):=by
 rw[mH];exact⟨rfl,(λx hx=>by cases hx),.inl ⟨by decide,by decide,rfl,rfl⟩⟩
theorem za(t:gU):1<=jL t:=by cases t;rw[jL];omega
theorem KC{l:List gU}{i:Nat}(h:i<l.length):l.getD i (qB 0)∈l:=by
 rw[aH,aA h];exact aO h
end Go.Gr.P
namespace Go.Gr.P
open Go.Abs Go.Proofs Go.Sort List
mutual
theorem Cx:∀(a b:gU),lC a b=true↔a=b
|.mk k n s l,.mk k' n' s' l'=>by
 simp only[lC,aF,aI,gU.mk.injEq];rw[F3 l l']
theorem F3:∀(a b:List gU),qd a b=true↔a=b
|[],[]=>by simp[qd]
|[],_::_=>by simp[qd]
|_::_,[]=>by simp[qd]
|a::l,b::k=>by
 simp only[qd,aF,dX];rw[Cx a b,F3 l k]
end
theorem zFe(xs:List (fF × gU)):(oC xs).map (·.1)=(kJ (xs.map (·.1))).toList.map λi=>(xs.map (·.1)).getD i ⟨#[]⟩:=by
 unfold oC;rw[bn];refine bf λi _=>?_;simp only[Function.comp_apply,aH,getElem?_map];cases xs[i]?<;>rfl
theorem zDU(xs:List (fF × gU)):((oC xs).map (·.1)).Pairwise λa b=>¬jw b a:=by
 rw[zFe,pairwise_map];obtain⟨⟨h1,_⟩,h2⟩:=zkZ (xs.map (·.1));generalize xs.map (·.1)=ns at*
 simp only[Array.size_range]at h1 h2;rw[bS];intro i j hi hj hij;have:=h2 i j (dH _) hij (by simpa[h1]using hj);rw[Jw]at this;have hi':i<(kJ ns).size:=by simpa using hi
 have hj':j<(kJ ns).size:=by simpa using hj
 rw[getElem!_pos (kJ ns) i hi',getElem!_pos (kJ ns) j hj']at this;simpa using this
theorem zA8:∀l:List fF,(∀i (h:i+1<l.length),jw l[i] l[i+1])->l.Pairwise jw
|[],_=>by simp
|[a],_=>by simp
|a::b::l,h=>by
 have ih:=zA8 (b::l) λi hi=>h (i+1) (by simp only[length_cons]at hi⊢;omega);have hab:jw a b:=h 0 (by simp);refine List.Pairwise.cons (λc hc=>?_) ih;rcases aN.1 hc with rfl|hc
 ·exact hab
 ·exact zh hab (rel_of_pairwise_cons ih hc)
theorem zIR{l:List fF}(h:sM l=true){i:Nat}(hi:i+1<l.length):l[i]≠l[i+1]:=by
 unfold sM at h;rw[aa]at h;have:=h (i+1) (by simpa using hi);unfold rM at this;intro e;have hi':i<l.length:=by omega
 simp[aH,aA hi,aA hi',e]at this
theorem zIS(s:List fF)(l:List gU)(hl:∀x,x∈l->jK x)(h:(nA s l).2=true):jK (nA s l).1:=by
 unfold nA at h⊢;split at h
 ·cases h
 ·rename_i hc;rw[aB hc];split at h
  ·rename_i hd;rw[aC hd];rw[mH];refine⟨rfl,λx hx=>?_,.inr (.inl ⟨rfl,by simp[gU.names,gU.kids],?_⟩)⟩
   ·simp only[gU.kids,aY]at hx;obtain⟨y,hy,rfl⟩:=hx;have:=(Ps _).mem_iff.1 hy;exact hl _ (of_mem_zip (a:=y.1) (b:=y.2) this).2
   ·simp only[gU.names];refine zA8 _ λi hi=>?_;have h1:=zIR hd.2 hi;have h2:=(bS.1 (zDU (s.zip l))) i (i+1) (by omega) hi (by omega);exact(EQ h1).resolve_right h2
  ·cases h
def Gl(of:List (Option gU)):Prop:=∀(i:Nat) (k:gU),of[i]?=some (some k)->iJ k=i/\jK k
theorem zH5{of:List (Option gU)}(h:Gl of){k:gU}(hk:jK k):Gl (qX of k).2:=by
 unfold qX;split
 ·exact h
 ·rename_i h0;split
  ·intro i m hm;simp only at hm;rw[getElem?_set]at hm;split at hm
   ·rename_i e;split at hm
    ·simp only[ai]at hm;subst hm;exact⟨by omega,hk⟩
    ·cases hm
   ·exact h i m hm
  ·exact h
theorem zzx:∀(l:List gU) {of:List (Option gU)},Gl of->(∀k,k∈l->jK k)->Gl (nz l of).2
|[],of,h,_=>h
|m::l,of,h,hl=>by
 rw[nz];split
 ·exact zzx l (zH5 h (hl m (by simp))) λk hk=>hl k (by simp[hk])
 ·exact h
theorem zzy:∀(of:List (Option gU)) (n:Nat),(∀(i:Nat) (k:gU),of[i]?=some (some k)->iJ k=(n+i:Nat))->((of.filterMap id).map iJ).Pairwise (· < ·)/\∀x,x∈of.filterMap id->(n:Int)<=iJ x
|[],n,_=>by simp
| o::of,n,h=>by
 have ih:=zzy of (n+1) λi k hk=>by rw[h (i+1) k (by simpa using hk)];omega
 cases o with
 |none=>
  simp only[filterMap_cons,id];exact⟨ih.1,λx hx=>by have:=ih.2 x hx;omega⟩
 | some t=>
  have h0:=h 0 t (by simp);simp only[filterMap_cons,id];refine⟨List.Pairwise.cons (λy hy=>?_) ih.1,λx hx=>?_⟩
  ·obtain⟨x,hx,rfl⟩:=aY.1 hy;have:=ih.2 x hx;omega
  ·rcases aN.1 hx with rfl|hx
   ·omega
   ·have:=ih.2 x hx;omega
theorem zGR{of:List (Option gU)}{x:gU}(h:x∈of.filterMap id):∃i:Nat,of[i]?=some (some x):=by
 rw[mem_filterMap]at h;obtain⟨o,ho,e⟩:=h;simp only[id]at e;subst e;exact List.mem_iff_getElem?.1 ho
theorem zGS(l:List gU)(hl:∀x,x∈l->jK x)(h:(xA l).2=true):jK (xA l).1:=by
 have hm:∀m,m∈l.flatMap ik->jK m:=λm hm=>by
  obtain⟨k,hk,hmk⟩:=eO.1 hm;have hw:=hl k hk;unfold ik at hmk;split at hmk
  ·exact((mH k).1 hw).2.1 m hmk
  ·rw[aL]at hmk;rw[hmk];exact hw
 have h0:Gl zx:=λi k hk=>by
  exfalso;unfold zx at hk
  match i,hk with
  |0,q|1,q|2,q|3,q|4,q|5,q=>simp at q
  |i+6,q=>simp at q
 have hw:=zzx _ h0 hm;unfold xA at h⊢;generalize nz (l.flatMap ik) zx=p at*
 obtain⟨b,of⟩:=p;cases b with
 |false=>cases h
 | true=>
  simp only at h hw⊢;have ht:=zzy of 0 λi k hk=>by rw[(hw i k hk).1];omega
  have hmem:∀x,x∈of.filterMap id->jK x:=λx hx=>by
   obtain⟨i,hi⟩:=zGR hx;exact(hw i x hi).2
  generalize of.filterMap id=L at*
  rcases L with _|⟨t,_|⟨t',L⟩⟩
  ·simp at h
  ·exact hmem t (by simp)
  ·simp only;rw[mH];exact⟨rfl,hmem,.inr (.inr (.inr ⟨rfl,rfl,by simp[gU.kids],ht.1,λx hx=>by have:=ht.2 x hx;omega⟩))⟩
mutual
theorem zCW:∀t:gU,(lY t).2=true->jK (lY t).1
| .mk k n s l,h=>by
 rw[lY]at h⊢;by_cases h5:5<=k/\k<=7
 ·rw [aC h5]at h⊢;by_cases hs:(mJ l).2=true
  ·rw[aC hs]at h⊢;have ih:=zA9 l hs;unfold wK at h⊢;by_cases k5:k=5
   ·rw[aC k5]at h⊢;exact zIS s _ ih h
   ·by_cases k6:k=6
    ·rw[aB k5,aC k6]at h⊢;rw[mH];exact⟨rfl,ih,.inr (.inr (.inl ⟨rfl,rfl,by simp only[aI]at h;exact h⟩))⟩
    ·rw[aB k5,aB k6]at h⊢;exact zGS _ ih h
  ·rw[aB hs]at h;cases h
 ·rw[aB h5]at h⊢;by_cases h0:0<=k/\k<=4
  ·rw[aC h0];rw[mH];exact⟨rfl,(λx hx=>by cases hx),.inl ⟨h0.1,h0.2,rfl,rfl⟩⟩
  ·rw[aB h0]at h;cases h
theorem zA9:∀l:List gU,(mJ l).2=true->∀x,x∈(mJ l).1->jK x
|[],_,x,hx=>by rw[mJ]at hx;cases hx
| t::l,h,x,hx=>by
 rw[mJ]at h hx;by_cases ht:(lY t).2=true
 ·rw[aC ht]at h hx;rcases aN.1 hx with rfl|hx
  ·exact zCW t ht
  ·exact zA9 l h x hx
 ·rw[aB ht]at h;cases h
end
theorem zBa{t:gU}(h:zy t=true):jK t/\lG t:=by
 unfold zy DZ at h;split at h
 ·simp at h
 ·rename_i hs;split at h
  ·rename_i hn;simp only[decide_true,Bool.true_and,Cx]at h;have:=zCW t hn;rw[h]at this;exact⟨this,Pt t (by omega)⟩
  ·simp at h
end Go.Gr.P
namespace Go.Gr.P
open Go.Abs Go.Proofs List
def qU(l:List Int)(x:Int):List Int:=if x∈l then l else l++[x]
def ou(l r:List Int):List Int:=r.foldl qU l
@[simp] theorem zGp(l:List Int):ou l []=l:=rfl
theorem zxd{l:List Int}{x y:Int}:y∈qU l x↔y∈l\/y=x:=by
 unfold qU;split
 ·rename_i h;exact⟨.inl,λh'=>h'.elim id λe=>e▸h⟩
 ·simp
theorem zux{l:List Int}{x:Int}(h:l.Nodup):(qU l x).Nodup:=by
 unfold qU;split
 ·exact h
 ·rename_i q;refine bu.2 ⟨h,by simp,λa ha b hb e=>?_⟩;rw[aL]at hb;exact q (hb▸e▸ha)
theorem zxe(l:List Int)(x:Int):(qU l x).length<=l.length+1:=by
 unfold qU;split<;>simp
theorem zuy:∀{r l:List Int} {y:Int},y∈ou l r↔y∈l\/y∈r
|[],l,y=>by simp[ou]
|x::r,l,y=>by
 have:ou l (x::r)=ou (qU l x) r:=rfl;rw[this,zuy,zxd,aN,or_assoc]
theorem zsL:∀{r l:List Int},l.Nodup->(ou l r).Nodup
|[],l,h=>h
|x::r,l,h=>zsL (r:=r) (zux h)
theorem zuz:∀(r l:List Int),(ou l r).length<=l.length+r.length
|[],l=>aP _
|x::r,l=>by
 have h1:=zuz r (qU l x);have h2:=zxe l x;have:ou l (x::r)=ou (qU l x) r:=rfl;rw[this,length_cons];omega
def iB(r:List Int):List Int:=zuq ((ou [] r).filter λx=> !decide (x=0))
theorem zER{l:List Int}{x:Int}:x∈zuq l↔x∈l:=by simp[zuq]
theorem zB1{l:List Int}(h:l.Nodup):(zuq l).Pairwise (· < ·):=by
 have h1:=pairwise_mergeSort (le:=λx y:Int=>decide (x<=y)) (λa b c h1 h2=>by simp only[aI]at*;omega) (λa b=>by simp only[bz,aI];omega) l;have h2:(l.mergeSort λx y=>decide (x<=y)).Nodup:=(mergeSort_perm _ _).nodup_iff.2 h;unfold zuq;refine(h1.and h2).imp λ{a b} ⟨p,q⟩=>?_;simp only[aI]at p;omega
theorem zxW{l k:List Int}(h1:l.Pairwise (· < ·))(h2:k.Pairwise (· < ·))(h:∀x,x∈l↔x∈k):l=k:=
 List.Perm.eq_of_pairwise (le:=(· < ·)) (λa b _ _ p q=>by omega) h1 h2 ((perm_ext_iff_of_nodup (h1.imp λh e=>by omega) (h2.imp λh e=>by omega)).2 h)
theorem zD{r:List Int}{x:Int}:x∈iB r↔x∈r/\x≠0:=by
 unfold iB;rw[zER,au,zuy];simp
theorem Bz(r:List Int):(iB r).Pairwise (· < ·):=zB1 ((zsL (r:=r) (l:=[]) (by simp)).filter _)
theorem KD{l r:List Int}(h1:l.Pairwise (· < ·))(h:∀x,x∈l↔x∈r/\x≠0):l=iB r:=
 zxW h1 (Bz r) λx=>by rw[h,zD]
theorem zKv(r:List Int):(iB r).length<=r.length:=by
 unfold iB zuq;have h1:=zuz r [];have h2:=bP (λx=> !decide (x=0)) (ou [] r);simp only[length_nil,Nat.zero_add]at h1;rw[length_mergeSort];omega
@[simp] theorem zKw:iB []=[]:=by simp[iB,zuq,ou]
def jC(l:List Int)(x:Int):Nat:=(l.takeWhile λy=>decide (y<x)).length
theorem zCJ(l:List Int)(x:Int):jC l x<=l.length:=by
 unfold jC;have:=(takeWhile_sublist (l:=l) λy=>decide (y<x)).length_le;omega
theorem Gm:∀{l:List Int} {x:Int} {i:Nat} (h:i<l.length),i<jC l x->l[i]<x
| y::l,x,i,h,hi=>by
 unfold jC at hi;rw[takeWhile_cons]at hi;split at hi
 ·rename_i q
  match i with
  |0=>simpa using q
  |i+1=>
   simp only[getElem_cons_succ];exact Gm _ (by unfold jC;simpa using hi)
 ·simp at hi
theorem Gn:∀{l:List Int} {x:Int} (h:jC l x<l.length),¬l[jC l x]<x
|[],x,h=>by simp at h
| y::l,x,h=>by
 by_cases q:y<x
 ·have e:jC (y::l) x=jC l x+1:=by unfold jC;rw[takeWhile_cons,aC (by simpa using q)];try rfl
  simp only[e,getElem_cons_succ];exact Gn (by rw[e]at h;simpa using h)
 ·have e:jC (y::l) x=0:=by unfold jC;rw[takeWhile_cons,aB (by simpa using q)];try rfl
  simp only[e,getElem_cons_zero];exact q
theorem zGq{r:List Int}{x:Int}(h0:x≠0)(hn:x∉iB r):(iB r).take (jC (iB r) x)++x::(iB r).drop (jC (iB r) x)=iB (r++[x]):=by
 have hr:=Bz r;have hm:∀y,y∈iB r↔y∈r/\y≠0:=λy=>zD;generalize iB r=l at*
 have hlt:∀y,y∈l.take (jC l x)->y<x:=λy hy=>by
  obtain⟨i,hi,e⟩:=bF hy;rw[getElem_take]at e;have:i<jC l x/\i<l.length:=by simp at hi;omega
  rw[<-e];exact Gm this.2 this.1
 have hge:∀y,y∈l.drop (jC l x)->x<y:=λy hy=>by
  obtain⟨i,hi,e⟩:=bF hy;rw[getElem_drop]at e;have hi':jC l x+i<l.length:=by simp at hi;omega
  have h1:=Gn (l:=l) (x:=x) (by omega);have h2:l[jC l x]'(by omega)<=l[jC l x+i]:=by
   by_cases q:i=0
   ·subst q;simp
   ·exact Int.le_of_lt ((bS.1 hr) _ _ (by omega) hi' (by omega))
  have h3:x≠y:=λq=>hn (q▸dE hy);omega
 have hr1:=hr.sublist (take_sublist (jC l x) l);have hr2:=hr.sublist (drop_sublist (jC l x) l);refine KD ?_ λy=>?_
 ·refine cO.2 ⟨hr1,bJ.2 ⟨hge,hr2⟩,λa ha b hb=>?_⟩;have h1:=hlt a ha;rcases aN.1 hb with e|hb
  ·omega
  ·have:=hge b hb;omega
 ·have hy:y∈l↔y∈l.take (jC l x)\/y∈l.drop (jC l x):=by rw[<-aK,cB]
  simp only[aK,aN,bv,dR];constructor
  ·rintro(h|rfl|h)
   ·have:=(hm y).1 (hy.2 (.inl h));exact⟨.inl this.1,this.2⟩
   ·exact⟨.inr rfl,h0⟩
   ·have:=(hm y).1 (hy.2 (.inr h));exact⟨.inl this.1,this.2⟩
  ·rintro⟨h|rfl,h2⟩
   ·rcases hy.1 ((hm y).2 ⟨h,h2⟩)with q|q
    ·exact .inl q
    ·exact .inr (.inr q)
   ·exact .inr (.inl rfl)
theorem zES{r:List Int}{x:Int}(h:x=0\/x∈iB r):iB r=iB (r++[x]):=by
 refine KD (Bz r) λy=>?_;rw[zD,aK,aL];constructor
 ·exactλh=>⟨.inl h.1,h.2⟩
 ·rintro⟨q|rfl,q'⟩
  ·exact⟨q,q'⟩
  ·rcases h with h|h
   ·exact absurd h q'
   ·exact zD.1 h
theorem zHT{l:List Int}(hr:l.Pairwise (· < ·)){x:Int}:x∈l↔∃h:jC l x<l.length,l[jC l x]=x:=by
 constructor
 ·intro hx;obtain⟨i,hi,e⟩:=bF hx;have h1:¬i<jC l x:=λq=>by have:=Gm hi q;omega
  refine⟨by omega,?_⟩;by_cases q:jC l x=i
  ·simp only[q];exact e
  ·have h2:=(bS.1 hr) (jC l x) i (by omega) hi (by omega);have h3:=Gn (l:=l) (x:=x) (by omega);omega
 ·rintro⟨h,e⟩
  rw[<-e];exact aO h
mutual
def jS:gp->List Int
|.mk t n s f g=>(t++n.map (·.2))++(kr f++kr g)
def kr:List gp->List Int
|[]=>[]
|c::l=>jS c++kr l
end
theorem zz:∀a b:List gp,kr (a++b)=kr a++kr b
|[],b=>by simp[kr]
|x::a,b=>by simp[kr,zz a b]
theorem BG(c:gp):jS c=(c.tags++c.needs.map (·.2))++kr (c.fields++c.fn):=by
 cases c;simp[jS,gp.fields,gp.fn,gp.tags,gp.needs,zz]
theorem zxX{l:List gp}{j:Nat}(h:j<l.length):kr (l.take (j+1))=kr (l.take j)++jS l[j]:=by
 rw[aJ h,zz];simp[kr]
theorem yL{x:Int}:∀{l:List gp},x∈kr l↔∃c,c∈l/\x∈jS c
|[]=>by simp[kr]
|c::l=>by simp[kr,yL (l:=l)]
end Go.Gr.P
namespace Go.Gr.P
open Go.Abs Go.Proofs
end Go.Gr.P
namespace Go.Gr.P
open Go.Abs Go.Proofs List
def qh(l more:List Int):Bool:=more.all λx=>decide (x=0)||decide (x∈l)
theorem zF1{l more:List Int}{j:Nat}(h:j<more.length):qh l (more.take (j+1))=(qh l (more.take j)&&(decide (more[j]=0)||decide (more[j]∈l))):=by
 unfold qh;rw[aJ h,all_append];simp
abbrev sN(l:List Int):Blk:=.arr 1 ((encI l).map (·.map .d))
def lM(t0:Nat × Nat)(ok:Bool)(l:List Int):List Blk:=match ok with
|true=>[sN l,.pin t0 0]
|false=>[.dead,.pin t0 0,sN l]
def pG(tr ok:Bool)(l more:List Int)(j:Nat):List (Nat × AV):=[(5,.c (.d (.int .i64 j))),(0,.c (.msl 1 (match ok with|true=>0|false=>2) 0 l.length)),(1,.c (.d (.sl tr 1 (encI more))))]
theorem Gp{c:Ctx}(hp:c.pure){t0:Nat × Nat}(tr ok:Bool)(l more:List Int)(hl:l.length<=1073741824){j:Nat}(hj:j<more.length){Q:Exit->St->Prop}{S:St}{g}{ms:List Nat}
  (h0:iM ms S ((6,.c (.d (.int .i64 0)))::pG tr ok l more j) (lM t0 ok l))
  (hQ:∀T,Abs.look T 6=.c (.d (.int .i64 (jC l more[j])))->Abs.look T 5=.c (.d (.int .i64 j))->Abs.look T 0=.c (.msl 1 (match ok with|true=>0|false=>2) 0 l.length)->Abs.look T 1=.c (.d (.sl tr 1 (encI more)))->Q (.exit 2) ⟨T,hpOf (lM t0 ok l),(lM t0 ok l).length⟩):mV Pg c PX Q g S:=by
 refine fP gz hp (λk:Nat=>k<=jC l more[j]) (λk=>(6,.c (.d (.int .i64 k)))::pG tr ok l more j)
  (λk=>lM t0 ok l) (λk=>jC l more[j]-k) 0 ms (by simp) h0 λk h1=>?_
 have hcl:=zCJ l more[j];unfold PX;cases ok
 ·simp[lM,pG]at hQ⊢;apply gN<;>intro h
  ·have hk:k<l.length:=by simpa using h
   simp[aA hk,aA hj];refine⟨hk,by decide,gN (λh=>?_) (λh=>?_)⟩
   ·have hx:l[k]<more[j]:=by simpa using h
    have hne:k≠jC l more[j]:=λe=>by
     have:=Gn (l:=l) (x:=more[j]) (by omega);simp only[<-e]at this;exact this hx
    refine fG (k+1) [0,1,2] (by omega) (by omega) ?_;simp;exact wI
   ·have hx:¬l[k]<more[j]:=by simpa using h
    have e:k=jC l more[j]:=by
     rcases aW k (jC l more[j])with q|q
     ·exact absurd (Gm hk q) hx
     ·omega
    exact hQ _ (by simp[e]) (by simp) (by simp) (by simp)
  ·have hk:k=l.length:=by simp at h;omega
   have e:k=jC l more[j]:=by omega
   exact⟨by decide,hQ _ (by simp[e]) (by simp) (by simp) (by simp)⟩
 ·simp[lM,pG]at hQ⊢;apply gN<;>intro h
  ·have hk:k<l.length:=by simpa using h
   simp[aA hk,aA hj];refine⟨hk,by decide,gN (λh=>?_) (λh=>?_)⟩
   ·have hx:l[k]<more[j]:=by simpa using h
    have hne:k≠jC l more[j]:=λe=>by
     have:=Gn (l:=l) (x:=more[j]) (by omega);simp only[<-e]at this;exact this hx
    refine fG (k+1) [0,1] (by omega) (by omega) ?_;simp;exact wI
   ·have hx:¬l[k]<more[j]:=by simpa using h
    have e:k=jC l more[j]:=by
     rcases aW k (jC l more[j])with q|q
     ·exact absurd (Gm hk q) hx
     ·omega
    exact hQ _ (by simp[e]) (by simp) (by simp) (by simp)
  ·have hk:k=l.length:=by simp at h;omega
   have e:k=jC l more[j]:=by omega
   exact⟨by decide,hQ _ (by simp[e]) (by simp) (by simp) (by simp)⟩
theorem KE{a b:List Int}(h:∀x,x≠0->x∈a->x∈b):(iB a).length<=(iB b).length:=by
 have e:iB a=(iB b).filter λx=>decide (x∈iB a):=zxW (Bz a) ((Bz b).filter _) λx=>by
  simp only[au,zD,aI];exact⟨λq=>⟨⟨h x q.2 q.1,q.2⟩,q⟩,λq=>q.2⟩
 calc(iB a).length=((iB b).filter λx=>decide (x∈iB a)).length:=dL _ e
  _<=_:=bP _ _
theorem zAi(tr:Bool)(r more:List Int)(hr:(iB (r++more)).length<=536870912)(hm:more.length<=536870912){t0:Nat × Nat}{c:Ctx}(hp:c.pure){Q:Exit->St->Prop}{S:St}{g}
  (h0:iM [0,1] S (pG tr true (iB r) more 0) (lM t0 true (iB r)))
  (hQ:∀T,Abs.look T 0=.c (.msl 1 (match qh (iB r) more with|true=>0|false=>2) 0 (iB (r++more)).length)->Q (.exit 0) ⟨T,hpOf (lM t0 (qh (iB r) more) (iB (r++more))),(lM t0 (qh (iB r) more) (iB (r++more))).length⟩):mV Pg c PY Q g S:=by
 refine fP gz hp (λj:Nat=>j<=more.length) (λj=>pG tr (qh (iB r) (more.take j)) (iB (r++more.take j)) more j)
  (λj=>lM t0 (qh (iB r) (more.take j)) (iB (r++more.take j))) (λj=>more.length-j) 0 [0,1] (by simp) (by simpa[qh]using h0) λj h1=>?_
 unfold PY;have hlen:(iB (r++more.take j)).length<=1073741824:=by
  have:=KE (a:=r++more.take j) (b:=r++more) λx _ hx=>by
   rcases aK.1 hx with q|q
   ·exact aK.2 (.inl q)
   ·exact aK.2 (.inr (bL q))
  omega
 have hsucc:∀h:j<more.length,qh (iB r) (more.take (j+1))=(qh (iB r) (more.take j)&&(decide (more[j]=0)||decide (more[j]∈iB r))):=λh=>zF1 h;have hal:qh (iB r) (more.take j)=true->iB (r++more.take j)=iB r:=λh=>(KD (Bz r) λx=>by
  rw[zD,aK];constructor
  ·exactλh=>⟨.inl h.1,h.2⟩
  ·rintro⟨q|q,q'⟩
   ·exact⟨q,q'⟩
   ·have:=aa.1 h x q;simp only[bz,aI]at this;rcases this with e|e
    ·exact absurd e q'
    ·exact zD.1 e).symm
 have hri:=Bz (r++more.take j);by_cases hj:j<more.length;rotate_left
 ·have e:j=more.length:=by omega
  subst e;rw[bO];clear hri hal hsucc hlen h0;generalize qh (iB r) more=ok at*
  generalize iB (r++more)=l at*
  cases ok
  ·simp[pG,lM];exact hQ _ (by simp)
  ·simp[pG,lM];exact hQ _ (by simp)
 ·have hx:r++more.take (j+1)=(r++more.take j)++[more[j]]:=by rw[aJ hj,bI]
  have hsucc:=hsucc hj;have hsame:more[j]=0\/more[j]∈iB (r++more.take j)->iB (r++more.take (j+1))=iB (r++more.take j):=λh=>by rw[hx];exact(zES h).symm
  have hput:more[j]≠0->more[j]∉iB (r++more.take j)->iB (r++more.take (j+1))=(iB (r++more.take j)).take (jC (iB (r++more.take j)) more[j])++more[j]::(iB (r++more.take j)).drop (jC (iB (r++more.take j)) more[j]):=λh h'=>by rw[hx];exact(zGq h h').symm
  have his:=zHT hri (x:=more[j]);have hcl:=zCJ (iB (r++more.take j)) more[j];clear hx h0;generalize hok:qh (iB r) (more.take j)=ok at*
  generalize hl:iB (r++more.take j)=l at*
  cases ok
  ·simp[pG,lM,hj];refine Gp (t0:=t0) hp tr false l more hlen hj (ms:=[0,1,2]) (by simp[pG,lM]) λT e6 e5 e0 e1=>?_;simp[lM,e6,e5,e0,e1,aA hj];generalize hc:jC l more[j]=k at*
   by_cases hin:more[j]=0\/more[j]∈l
   ·have hs:=hsame hin;have hkeep:qh (iB r) (more.take (j+1))=false:=by
     rw[hsucc];simp
    apply gN<;>intro z
    ·have z':more[j]≠0:=by simpa using z
     obtain⟨hk,he⟩:=his.1 (hin.resolve_left z');simp[hk,aA hk,he];refine⟨by decide,?_⟩;refine fG (j+1) [0,1,2] (by omega) (by omega) ?_;simp only[hkeep,hs];simp[e0,e1];exact wI
    ·refine⟨by decide,?_⟩;refine fG (j+1) [0,1,2] (by omega) (by omega) ?_;simp only[hkeep,hs];simp[e0,e1];exact wI
   ·rw[dO]at hin;have hs:=hput hin.1 hin.2;have hkeep:qh (iB r) (more.take (j+1))=false:=by
     rw[hsucc];simp
    have hne:∀(h:k<l.length),¬l[k]=more[j]:=λh e=>hin.2 (his.2 ⟨h,e⟩);have f1:(List.map (λx=>List.map AC.d x) (encI l)).take k=List.map (λx=>List.map AC.d x) (encI (l.take k)):=by simp[encI,map_take]
    have f2:(List.map (λx=>List.map AC.d x) (encI l)).drop k=List.map (λx=>List.map AC.d x) (encI (l.drop k)):=by simp[encI,map_drop]
    have f3:∀(y:List AC),(List.map (λx=>List.map AC.d x) (encI (l.take k))++[y]).take (k+1)=List.map (λx=>List.map AC.d x) (encI (l.take k))++[y]:=λy=>aD (by simp;omega);have f4:(List.map (λx=>List.map AC.d x) (encI (l.drop k))).take (l.length-k)=List.map (λx=>List.map AC.d x) (encI (l.drop k)):=aD (by simp);have hln:(take k l++more[j]::drop k l).length=k+1+(l.length-k):=by simp;omega
    have hfin:List.map (λx=>List.map AC.d x) (encI (l.take k))++[[AC.d (D.int IntKind.i64 more[j])]]++List.map (λx=>List.map AC.d x) (encI (l.drop k))=List.map (λx=>List.map AC.d x) (encI (take k l++more[j]::drop k l)):=by simp[encI]
    simp only[hin.1,decide_false,RO];by_cases hk:k<l.length
    ·have hne:=hne hk;simp[hk,aA hk,hne];refine⟨by decide,by omega,by omega,by omega,by omega,by omega,by decide,by omega,by omega,?_⟩;refine fG (j+1) [0,1,5] (by omega) (by omega) ?_;simp only[hkeep,hs,f1,f2,f3,f4,hfin,hln];simp[e1];exact wI
    ·simp only[hk,decide_false,RP];refine⟨by decide,by omega,by omega,by omega,by omega,by omega,by decide,by omega,by omega,?_⟩;refine fG (j+1) [0,1,5] (by omega) (by omega) ?_;simp only[hkeep,hs,f1,f2,f3,f4,hfin,hln];simp[e1];exact wI
  ·simp[pG,lM,hj];refine Gp (t0:=t0) hp tr true l more hlen hj (ms:=[0,1]) (by simp[pG,lM]) λT e6 e5 e0 e1=>?_;simp[lM,e6,e5,e0,e1,aA hj];generalize hc:jC l more[j]=k at*
   by_cases hin:more[j]=0\/more[j]∈l
   ·have hs:=hsame hin;have hkeep:qh (iB r) (more.take (j+1))=true:=by
     rw[hsucc];rw[hal rfl]at hin;simpa using hin
    apply gN<;>intro z
    ·have z':more[j]≠0:=by simpa using z
     obtain⟨hk,he⟩:=his.1 (hin.resolve_left z');simp[hk,aA hk,he];refine⟨by decide,?_⟩;refine fG (j+1) [0,1] (by omega) (by omega) ?_;simp only[hkeep,hs];simp[e0,e1];exact wI
    ·refine⟨by decide,?_⟩;refine fG (j+1) [0,1] (by omega) (by omega) ?_;simp only[hkeep,hs];simp[e0,e1];exact wI
   ·rw[dO]at hin;have hs:=hput hin.1 hin.2;have hkeep:qh (iB r) (more.take (j+1))=false:=by
     rw[hsucc];have:=hal rfl;rw[this]at hin;simpa using hin
    have hne:∀(h:k<l.length),¬l[k]=more[j]:=λh e=>hin.2 (his.2 ⟨h,e⟩);have f1:(List.map (λx=>List.map AC.d x) (encI l)).take k=List.map (λx=>List.map AC.d x) (encI (l.take k)):=by simp[encI,map_take]
    have f2:(List.map (λx=>List.map AC.d x) (encI l)).drop k=List.map (λx=>List.map AC.d x) (encI (l.drop k)):=by simp[encI,map_drop]
    have f3:∀(y:List AC),(List.map (λx=>List.map AC.d x) (encI (l.take k))++[y]).take (k+1)=List.map (λx=>List.map AC.d x) (encI (l.take k))++[y]:=λy=>aD (by simp;omega);have f4:(List.map (λx=>List.map AC.d x) (encI (l.drop k))).take (l.length-k)=List.map (λx=>List.map AC.d x) (encI (l.drop k)):=aD (by simp);have hln:(take k l++more[j]::drop k l).length=k+1+(l.length-k):=by simp;omega
    have hfin:List.map (λx=>List.map AC.d x) (encI (l.take k))++[[AC.d (D.int IntKind.i64 more[j])]]++List.map (λx=>List.map AC.d x) (encI (l.drop k))=List.map (λx=>List.map AC.d x) (encI (take k l++more[j]::drop k l)):=by simp[encI]
    simp only[hin.1,decide_false,RO];by_cases hk:k<l.length
    ·have hne:=hne hk;simp[hk,aA hk,hne];refine⟨by decide,by omega,by omega,by omega,by omega,by omega,by decide,by omega,by omega,?_⟩;refine fG (j+1) [0,1,4] (by omega) (by omega) ?_;simp only[hkeep,hs,f1,f2,f3,f4,hfin,hln];simp[e1];exact wI
    ·simp only[hk,decide_false,RP];refine⟨by decide,by omega,by omega,by omega,by omega,by omega,by decide,by omega,by omega,?_⟩;refine fG (j+1) [0,1,4] (by omega) (by omega) ?_;simp only[hkeep,hs,f1,f2,f3,f4,hfin,hln];simp[e1];exact wI
theorem KF(tr:Bool)(r more:List Int)(hr:(iB (r++more)).length<=536870912)(hm:more.length<=536870912)(h:qh (iB r) more=true):
  MCall Pg 44 [.c (.msl 1 0 0 (iB r).length),.c (.d (.sl tr 1 (encI more)))] [sN (iB r)] (.c (.msl 1 0 0 (iB (r++more)).length)) [sN (iB (r++more))]:=by
 refine zyl ⟨by simp,by simp,by simp,by simp,by simp,by simp[live],by simp⟩ λts hts ok hb c hN hp=>?_;obtain⟨t0,rfl⟩:=lw hts;unfold PZ;simp;refine zAi tr r more hr hm (t0:=t0) hp (by simp[pG,lM]) λT e=>?_;rw[h]at e⊢;simp[lM,e];exact fM [0] [1]
theorem KG(tr:Bool)(r more:List Int)(hr:(iB (r++more)).length<=536870912)(hm:more.length<=536870912)(h:qh (iB r) more=false):
  MCall Pg 44 [.c (.msl 1 0 0 (iB r).length),.c (.d (.sl tr 1 (encI more)))] [sN (iB r)] (.c (.msl 1 1 0 (iB (r++more)).length)) [.dead,sN (iB (r++more))]:=by
 refine zyl ⟨by simp,by simp,by simp,by simp,by simp,by simp[live],by simp⟩ λts hts ok hb c hN hp=>?_;obtain⟨t0,rfl⟩:=lw hts;unfold PZ;simp;refine zAi tr r more hr hm (t0:=t0) hp (by simp[pG,lM]) λT e=>?_;rw[h]at e⊢;simp[lM,e];exact fM [0,2] [1]
theorem zAj(r more raw:List Int)(h:∀x,x≠0->(x∈more↔x∈raw)):iB (r++more)=iB (r++raw):=by
 refine KD (Bz _) λx=>?_;rw[zD,aK,aK];constructor
 ·rintro⟨q|q,q'⟩
  ·exact⟨.inl q,q'⟩
  ·exact⟨.inr ((h x q').1 q),q'⟩
 ·rintro⟨q|q,q'⟩
  ·exact⟨.inl q,q'⟩
  ·exact⟨.inr ((h x q').2 q),q'⟩
theorem zwA(d:gp)(hraw:(iB (jS d)).length<=536870912)(ih:∀x,x∈d.fields\/x∈d.fn->gY Pg 27 [.agg x.enc] (.one (.sl false 1 (encI (iB (jS x)))))):gY Pg 27 [.agg d.enc] (.one (.sl false 1 (encI (iB (jS d))))):=by
 have hsub:∀r:List Int,(∀x,x∈r->x∈jS d)->(iB r).length<=536870912:=λr h=>aj (KE λx _ hx=>h x hx) hraw;have hraw':∀x,x∈d.tags\/x∈d.needs.map (·.2)\/x∈kr d.fields\/x∈kr d.fn->x∈jS d:=λx h=>by
  rw[BG,zz];simp only[aK];rcases h with h|h|h|h
  ·exact .inl (.inl h)
  ·exact .inl (.inr h)
  ·exact .inr (.inl h)
  ·exact .inr (.inr h)
 have hrt:∀(l:List gp) (j:Nat) (x:Int),x∈kr (l.take j)->x∈kr l:=λl j x h=>by
  obtain⟨c,h1,h2⟩:=yL.1 h;exact yL.2 ⟨c,bL h1,h2⟩
 have hA:∀j,(iB (d.tags.take j)).length<=536870912:=λj=>hsub _ λx h=>hraw' x (.inl (bL h));have hB:∀j,(iB (d.tags++(d.needs.map (·.2)).take j)).length<=536870912:=λj=>hsub _ λx h=>by
  rcases aK.1 h with h|h
  ·exact hraw' x (.inl h)
  ·exact hraw' x (.inr (.inl (bL h)))
 have hC:∀j,(iB ((d.tags++d.needs.map (·.2))++kr (d.fields.take j))).length<=536870912:=λj=>hsub _ λx h=>by
  rcases aK.1 h with h|h
  ·rcases aK.1 h with h|h
   ·exact hraw' x (.inl h)
   ·exact hraw' x (.inr (.inl h))
  ·exact hraw' x (.inr (.inr (.inl (hrt _ _ _ h))))
 have hD:∀j,(iB (((d.tags++d.needs.map (·.2))++kr d.fields)++kr (d.fn.take j))).length<=536870912:=λj=>hsub _ λx h=>by
  rcases aK.1 h with h|h
  ·rcases aK.1 h with h|h
   ·rcases aK.1 h with h|h
    ·exact hraw' x (.inl h)
    ·exact hraw' x (.inr (.inl h))
   ·exact hraw' x (.inr (.inr (.inl h)))
  ·exact hraw' x (.inr (.inr (.inr (hrt _ _ _ h))))
 refine zAY (by simp) λo c hN hp=>?_;have hl:d.tags.length<=zah/\d.needs.length<=zah/\d.names.length<=zah/\d.fields.length<=zah/\d.fn.length<=zah:=by
  have:=o.1;rw[gp.enc_eq]at this;simp only[DV.ok,D.okL,D.ok,Ld,Sy,Cc,aV]at this;exact⟨this.1.1,this.2.1.1,this.2.2.1.1,this.2.2.2.1.1,this.2.2.2.2.1.1⟩
 unfold zah at hl;unfold zve;simp;refine fV [.t 3] ?_;simp
 refine fP gz hp (λj:Nat=>j<=d.tags.length) (λj=>[(4,.c (.d (.int .i64 j))),(1,.c (.d (.rp d.enc 0))),(3,.c (.msl 1 0 0 (iB (d.tags.take j)).length))])
  (λj=>[sN (iB (d.tags.take j))]) (λj=>d.tags.length-j) 0 [0] (by simp) (by simp) λj h1=>?_
 unfold ztz;simp;apply gN<;>intro h
 ·have hj:j<d.tags.length:=by simpa using h
  simp[aA hj];have hs:iB (d.tags.take j++[d.tags[j]])=iB (d.tags.take (j+1)):=by rw[aJ hj]
  by_cases hi:qh (iB (d.tags.take j)) [d.tags[j]]=true
  ·have hc:=KF true (d.tags.take j) [d.tags[j]] (by rw[hs];exact hA _) (by simp) hi;rw[hs]at hc;refine gQ [0] hc (by simp;rfl) ?_;simp;refine fV [] ?_;simp;refine fG (j+1) [0] (by omega) (by omega) ?_;simp;exact wI
  ·have hc:=KG true (d.tags.take j) [d.tags[j]] (by rw[hs];exact hA _) (by simp) (by simpa using hi);rw[hs]at hc;refine gQ [0] hc (by simp;rfl) ?_;simp;refine fV [] ?_;simp;refine fG (j+1) [1] (by omega) (by omega) ?_;simp;exact wI
 ·have hj:j=d.tags.length:=by simp at h;omega
  subst hj;simp
  refine fP gz hp (λj:Nat=>j<=d.needs.length) (λj=>[(5,.c (.d (.int .i64 j))),(1,.c (.d (.rp d.enc 0))),(3,.c (.msl 1 0 0 (iB (d.tags++(d.needs.map (·.2)).take j)).length))])
   (λj=>[sN (iB (d.tags++(d.needs.map (·.2)).take j))]) (λj=>d.needs.length-j) 0 [0] (by simp) (by simp) λj h1=>?_
  unfold ztA;simp;apply gN<;>intro h
  ·have hj:j<d.needs.length:=by simpa using h
   have hj2:j<(d.needs.map (·.2)).length:=by simpa using hj
   have hs:iB ((d.tags++(d.needs.map (·.2)).take j)++[d.needs[j].2])=iB (d.tags++(d.needs.map (·.2)).take (j+1)):=by rw[aJ hj2,bI];simp
   simp[aA hj];by_cases hi:qh (iB (d.tags++(d.needs.map (·.2)).take j)) [d.needs[j].2]=true
   ·have hc:=KF true (d.tags++(d.needs.map (·.2)).take j) [d.needs[j].2] (by rw[hs];exact hB _) (by simp) hi;rw[hs]at hc;refine gQ [0] hc (by simp;rfl) ?_;simp;refine fG (j+1) [0] (by omega) (by omega) ?_;simp;exact wI
   ·have hc:=KG true (d.tags++(d.needs.map (·.2)).take j) [d.needs[j].2] (by rw[hs];exact hB _) (by simp) (by simpa using hi);rw[hs]at hc;refine gQ [0] hc (by simp;rfl) ?_;simp;refine fG (j+1) [1] (by omega) (by omega) ?_;simp;exact wI
  ·have hj:j=d.needs.length:=by simp at h;omega
   subst hj;have hz:(d.needs.map (·.2)).take d.needs.length=d.needs.map (·.2):=aD (by simp);rw[hz];simp
   refine fP gz hp (λj:Nat=>j<=d.fields.length) (λj=>[(6,.c (.d (.int .i64 j))),(1,.c (.d (.rp d.enc 0))),(3,.c (.msl 1 0 0 (iB ((d.tags++d.needs.map (·.2))++kr (d.fields.take j))).length))])
    (λj=>[sN (iB ((d.tags++d.needs.map (·.2))++kr (d.fields.take j)))]) (λj=>d.fields.length-j) 0 [0] (by simp) (by simp[kr]) λj h1=>?_
   unfold ztB;simp;apply gN<;>intro h
   ·have hj:j<d.fields.length:=by simpa using h
    have hs:iB (((d.tags++d.needs.map (·.2))++kr (d.fields.take j))++iB (jS d.fields[j]))=iB ((d.tags++d.needs.map (·.2))++kr (d.fields.take (j+1))):=by
     rw[zxX hj,<-bI];exact zAj _ _ _ λx hx=>by rw[zD];exact⟨λh=>h.1,λh=>⟨h,hx⟩⟩
    have hb3:(iB (jS d.fields[j])).length<=536870912:=hsub _ λx h=>hraw' x (.inr (.inr (.inl (yL.2 ⟨_,aO hj,h⟩))));simp[aA hj];refine gT (ih _ (.inl (aO hj))) ?_;simp;by_cases hi:qh (iB ((d.tags++d.needs.map (·.2))++kr (d.fields.take j))) (iB (jS d.fields[j]))=true
    ·have hc:=KF false ((d.tags++d.needs.map (·.2))++kr (d.fields.take j)) (iB (jS d.fields[j])) (by rw[hs];exact hC _) (by omega) hi;rw[hs]at hc;simp only[bI]at hc;refine gP [0] hc ?_;simp;refine fG (j+1) [0] (by omega) (by omega) ?_;simp;exact wI
    ·have hc:=KG false ((d.tags++d.needs.map (·.2))++kr (d.fields.take j)) (iB (jS d.fields[j])) (by rw[hs];exact hC _) (by omega) (by simpa using hi);rw[hs]at hc;simp only[bI]at hc;refine gP [0] hc ?_;simp;refine fG (j+1) [1] (by omega) (by omega) ?_;simp;exact wI
   ·have hj:j=d.fields.length:=by simp at h;omega
    subst hj;simp
    refine fP gz hp (λj:Nat=>j<=d.fn.length) (λj=>[(7,.c (.d (.int .i64 j))),(1,.c (.d (.rp d.enc 0))),(3,.c (.msl 1 0 0 (iB (((d.tags++d.needs.map (·.2))++kr d.fields)++kr (d.fn.take j))).length))])
     (λj=>[sN (iB (((d.tags++d.needs.map (·.2))++kr d.fields)++kr (d.fn.take j)))]) (λj=>d.fn.length-j) 0 [0] (by simp) (by simp[kr]) λj h1=>?_
    unfold ztC;simp;apply gN<;>intro h
    ·have hj:j<d.fn.length:=by simpa using h
     have hs:iB ((((d.tags++d.needs.map (·.2))++kr d.fields)++kr (d.fn.take j))++iB (jS d.fn[j]))=iB (((d.tags++d.needs.map (·.2))++kr d.fields)++kr (d.fn.take (j+1))):=by
      rw[zxX hj,<-bI];exact zAj _ _ _ λx hx=>by rw[zD];exact⟨λh=>h.1,λh=>⟨h,hx⟩⟩
     have hb3:(iB (jS d.fn[j])).length<=536870912:=hsub _ λx h=>hraw' x (.inr (.inr (.inr (yL.2 ⟨_,aO hj,h⟩))));simp[aA hj];refine gT (ih _ (.inr (aO hj))) ?_;simp;by_cases hi:qh (iB (((d.tags++d.needs.map (·.2))++kr d.fields)++kr (d.fn.take j))) (iB (jS d.fn[j]))=true
     ·have hc:=KF false (((d.tags++d.needs.map (·.2))++kr d.fields)++kr (d.fn.take j)) (iB (jS d.fn[j])) (by rw[hs];exact hD _) (by omega) hi;rw[hs]at hc;simp only[bI]at hc;refine gP [0] hc ?_;simp;refine fG (j+1) [0] (by omega) (by omega) ?_;simp;exact wI
     ·have hc:=KG false (((d.tags++d.needs.map (·.2))++kr d.fields)++kr (d.fn.take j)) (iB (jS d.fn[j])) (by rw[hs];exact hD _) (by omega) (by simpa using hi);rw[hs]at hc;simp only[bI]at hc;refine gP [0] hc ?_;simp;refine fG (j+1) [1] (by omega) (by omega) ?_;simp;exact wI
    ·have hj:j=d.fn.length:=by simp at h;omega
     subst hj;simp;have hr:jS d=d.tags++(d.needs.map (·.2)++(kr d.fields++kr d.fn)):=by rw[BG,zz];simp
     rw[hr];exact aD (by simp)
theorem Px:∀(n:Nat) {d:gp},ow n d->(iB (jS d)).length<=536870912->gY Pg 27 [.agg d.enc] (.one (.sl false 1 (encI (iB (jS d)))))
| 0,d,hi,hr=>zwA d hr λx hx=>by
  have:d=idC:=hi;rw[this]at hx;rcases hx with h|h<;>cases h
| n+1,d,hi,hr=>zwA d hr λx hx=>by
  have hsub:∀y,y∈jS x->y∈jS d:=λy hy=>by
   rw[BG d,zz];simp only[aK];rcases hx with h|h
   ·exact .inr (.inl (yL.2 ⟨x,h,hy⟩))
   ·exact .inr (.inr (yL.2 ⟨x,h,hy⟩))
  have hr':=aj (KE λy _ hy=>hsub y hy) hr;rcases hx with h|h
  ·exact Px n (hi.1 x h) hr'
  ·exact Px n (hi.2 x h) hr'
theorem zHh{c:gp}(M:May c):(c.fn=[]/\jD c=(idC,idC))\/(∃x y,c.fn=[x,y]/\jD c=(x,y)):=by
 rcases M.fn with e|⟨f,g,e,_⟩
 ·exact .inl ⟨e,by unfold jD;rw[e]⟩
 ·exact .inr ⟨f,g,e,by unfold jD;rw[e]⟩
theorem Gq{x:Int}(h:x∈jS idC):x=0:=by
 have:jS idC=[0,0,0,0,0,0]:=rfl;rw[this]at h;simp at h;exact h
theorem zzQ{c:gp}(M:May c){k:fF}{x:Int}(h0:x≠0)(h:x∈jS (kL c k)):x∈jS c:=by
 unfold kL at h;by_cases q:k∈c.names
 ·have hm:=ES M.len q;rw[BG,zz];simp only[aK];exact .inr (.inl (yL.2 ⟨_,hm,h⟩))
 ·rw[xn q]at h;exact absurd (Gq h) h0
theorem KH{c:gp}(M:May c){x:Int}(h0:x≠0)(h:x∈jS (jD c).1\/x∈jS (jD c).2):x∈jS c:=by
 rcases zHh M with⟨e,p⟩|⟨f,g,e,p⟩<;>rw[p]at h
 ·rcases h with h|h<;>exact absurd (Gq h) h0
 ·rw[BG,zz];simp only[aK];refine .inr (.inr (yL.2 ?_));rw[e];rcases h with h|h
  ·exact⟨f,by simp,h⟩
  ·exact⟨g,by simp,h⟩
theorem KI:∀(n:Nat) {a b:gp},iY a=true->iY b=true->∀{x:Int},x≠0->x∈jS (lc n a b)->x∈jS a\/x∈jS b
|0,_,_,_,_,x,h0,h=>absurd (Gq h) h0
| n +1,a,b,ma,mb,x,h0,h=>by
 have Ma:=(uI _).1 ma;have Mb:=(uI _).1 mb;have ia:∀{c:gp},x∈c.tags->x∈jS c:=λh=>by rw[BG];simp[h]
 have iN:∀{c:gp},x∈c.needs.map (·.2)->x∈jS c:=λh=>by rw[BG];simp only[aK];exact .inl (.inr h)
 rw[OU,BG,zz]at h;simp only[aK]at h;rcases h with(h|h)|h|h
 ·have ht:x∈lD a.tags b.tags:=h;obtain⟨i,hi,e⟩:=bF ht;have hL:=ET Ma.tags Mb.tags;have hia:i<a.tags.length:=by have:=Ma.tags;omega
  have hib:i<b.tags.length:=by have:=Mb.tags;omega
  have hval:(lD a.tags b.tags)[i]=if a.tags[i]=0 then b.tags[i]else a.tags[i]:=by simp[lD]
  rw[hval]at e;split at e
  ·exact .inr (ia (e▸aO hib))
  ·exact .inl (ia (e▸aO hia))
 ·have ht:x∈(tZ a b).map (·.2):=h;obtain⟨y,hy,rfl⟩:=aY.1 ht;unfold tZ at hy;split at hy
  ·unfold o5 at hy;rcases aK.1 hy with q|q
   ·exact .inl (iN (aY.2 ⟨y,q,rfl⟩))
   ·exact .inr (iN (aY.2 ⟨y,(au.1 q).1,rfl⟩))
  ·exact .inl (iN (aY.2 ⟨y,hy,rfl⟩))
 ·have ht:x∈kr (if iF (jG (lc n) a b) 4=0 then(rG (lc n) a b).map (·.2)else []):=h;split at ht
  ·obtain⟨c,hc,hx⟩:=yL.1 ht;unfold rG busy at hc;simp only[aY,au]at hc;obtain⟨y,⟨⟨k,_,rfl⟩,_⟩,rfl⟩:=hc;rcases KI n (Ma.field k) (Mb.field k) h0 hx with q|q
   ·exact .inl (zzQ Ma h0 q)
   ·exact .inr (zzQ Mb h0 q)
  ·cases ht
 ·have ht:x∈kr (if iF (jG (lc n) a b) 5=0 then mU (lc n (jD b).1 (jD a).1) (lc n (jD a).2 (jD b).2)else []):=h;split at ht
  ·unfold mU at ht;split at ht
   ·cases ht
   ·simp only[kr,bM,aK]at ht;rcases ht with ht|ht
    ·rcases KI n Mb.pair.1 Ma.pair.1 h0 ht with q|q
     ·exact .inr (KH Mb h0 (.inl q))
     ·exact .inl (KH Ma h0 (.inl q))
    ·rcases KI n Ma.pair.2 Mb.pair.2 h0 ht with q|q
     ·exact .inl (KH Ma h0 (.inr q))
     ·exact .inr (KH Mb h0 (.inr q))
  ·cases ht
end Go.Gr.P
