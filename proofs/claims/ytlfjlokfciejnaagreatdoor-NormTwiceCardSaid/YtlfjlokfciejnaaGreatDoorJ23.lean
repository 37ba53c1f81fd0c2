/- Texts of ours, joined and written short by a program of ours. -/
import Derived.Test.YtlfjlokfciejnaaGreatDoorLayS
import Derived.Test.YtlfjlokfciejnaaGreatDoorSrt
import Derived.WalkKit
import Derived.Lib.Walk
import Derived.Test.YtlfjlokfciejnaaGreatDoorJ19
import Derived.Test.YtlfjlokfciejnaaGreatDoorJ17
import Derived.Shelf.SlSortCmp.NoneTotal
import Derived.Test.YtlfjlokfciejnaaGreatDoorJ21
set_option maxRecDepth 20000
set_option maxHeartbeats 4000000
set_option linter.all false
namespace Go.Proofs
open Go.Shelf Go.RowKit Go.Lib Go.Sort
def Tryz.isNaN199(x:fC)(w:World):Calls Tryz.prog 199 #[.string x] w fun e w'=>e=.returned (.bool false)/\w'=w:=by
 go_enter Tryz.func199,Tryz.ntmps199
 go_wp2
 go_ret
 exact⟨by simp,rfl⟩
def cmpB(x y:fC):Int:=if Op.bytesLess x.data.toList y.data.toList=true then -1 else if(!(Op.bytesLess x.data.toList y.data.toList||decide (x=y)))=true then 1 else 0
def zEl(t:TypeId)(a b:fC):binOp .gtr t (.string a) (.string b)=pure (.bool (!(Op.bytesLess a.data.toList b.data.toList||decide (a=b)))):=by
 show Op.stringOp .gtr a b=_
 unfold Op.stringOp
 rw[Go.Abs.toList_inj,ByteArray.toList_eq,ByteArray.toList_eq]
def Tryz.compare185(x y:fC)(w:World):Calls Tryz.prog 185 #[.string x,.string y] w fun e w'=>e=.returned (.int .i64 (cmpB x y))/\w'=w:=by
 have hg:=zEl 9 x y
 go_enter Tryz.func185,Tryz.ntmps185
 go_wp2_with (go_at_call 199;refine(Tryz.isNaN199 _ _).mono ?_;rintro e w' ⟨rfl,hw⟩;rw[hw])
 ·rename_i h
  rw[ByteArray.toList_eq,ByteArray.toList_eq]at h
  go_ret
  exact⟨by unfold cmpB;rw[aC h];rfl,rfl⟩
 ·rename_i h2
  have hL:Op.bytesLess x.data.toList y.data.toList=false:=by simpa using h2.1
  have he:¬x=y:=by simpa using h2.2
  go_ret
  exact⟨by unfold cmpB;rw[hL];simp[he],rfl⟩
 ·rename_i h1 h2
  rw[ByteArray.toList_eq,ByteArray.toList_eq]at h1
  have he:x=y:=by simpa[h1]using h2
  go_ret
  exact⟨by unfold cmpB;rw[h1];simp[he],rfl⟩
structure FldV where
 name:fC
 a:Value
 b:Value
 c:Value
 d:Value
 h:a.oneCell'=true/\b.oneCell'=true/\c.oneCell'=true/\d.oneCell'=true
def encF(x:FldV):List Value:=[.string x.name,x.a,x.b,x.c,x.d]
def Tryz.closure184(x y:FldV)(W:World):Calls Tryz.prog 184 #[.agg (encF x).toArray,.agg (encF y).toArray] W fun e w'=>e=.returned (.int .i64 (cmpB x.name y.name))/\∃q os',w'=grow (W.drewN q) os':=by
 have hcon:=fun W'=>Tryz.compare185 x.name y.name W'
 change∀W',Calls Tryz.prog 185 _ _ _ at hcon
 generalize cmpB x.name y.name=r at hcon⊢
 unfold encF
 go_enter Tryz.func184,Tryz.ntmps184
 go_wp2_with (go_at_call 185;refine(hcon _).mono ?_;rintro e w' ⟨rfl,rfl⟩)
 go_ret
 exact⟨rfl,0,_,by rw[alloc_eq_grow,alloc_eq_grow,grow_grow];rfl⟩
instance:Inhabited FldV:=⟨⟨⟨#[]⟩,.bool false,.bool false,.bool false,.bool false,⟨rfl,rfl,rfl,rfl⟩⟩⟩
def cfF(x y:FldV):Int:=cmpB x.name y.name
def zGb(x y:FldV):ltOf cfF x y=Op.bytesLess x.name.data.toList y.name.data.toList:=by
 unfold ltOf cfF cmpB
 by_cases h:Op.bytesLess x.name.data.toList y.name.data.toList=true
 ·rw[aC h,h];try rfl
 ·rw[aB h]
  simp only[aK]at h
  rw[h]
  by_cases e:x.name=y.name<;>simp[e]
def zE3(x y:FldV):ltOf cfF x y=decide (Go.Gr.ltB x.name y.name):=by
 rw[zGb,Go.Gr.zkW];try rfl
def zDn(x:FldV):∀v,v∈encF x->v.oneCell'=true:=fun v hv=>by
 obtain⟨h1,h2,h3,h4⟩:=x.h
 simp only[encF,aM,List.not_mem_nil,eQ]at hv
 rcases hv with rfl|rfl|rfl|rfl|rfl
 ·rfl
 ·exact h1
 ·exact h2
 ·exact h3
 ·exact h4
def cfN(ns:List fC)(i j:Nat):Int:=cmpB (ns.getD i ⟨#[]⟩) (ns.getD j ⟨#[]⟩)
def srtN(ns:List fC):Array Nat:=pdq (ltOf (cfN ns)) (Array.range ns.length) 0 (Array.range ns.length).size (Lib.bitLen (Array.range ns.length).size) true true
def znu(ns:List fC)(i j:Nat):ltOf (cfN ns) i j=decide (Go.Gr.ltB (ns.getD i ⟨#[]⟩) (ns.getD j ⟨#[]⟩)):=by
 have h:=zE3 ⟨ns.getD i ⟨#[]⟩,.bool false,.bool false,.bool false,.bool false,⟨rfl,rfl,rfl,rfl⟩⟩ ⟨ns.getD j ⟨#[]⟩,.bool false,.bool false,.bool false,.bool false,⟨rfl,rfl,rfl,rfl⟩⟩
 unfold ltOf cfF at h
 unfold ltOf cfN
 exact h
def swoN(ns:List fC):SWO (ltOf (cfN ns)) where
 irrefl x:=by rw[znu];simpa using Go.Gr.zdU _
 trans x y z h1 h2:=by rw[znu]at*;simp at*;exact Go.Gr.zdP h1 h2
 ntrans x y z h1 h2:=by
  rw[znu]at*
  simp only[bY]at*
  intro h
  by_cases e:ns.getD y ⟨#[]⟩=ns.getD z ⟨#[]⟩
  ·rw[<-e]at h;exact h1 h
  ·cases Go.Gr.zhe e with
   |inl k=>exact h2 k
   |inr k=>exact h1 (Go.Gr.zdP h k)
def zqp(ns:List fC):PermIn 0 (Array.range ns.length).size (Array.range ns.length) (srtN ns)/\SortedIn (ltOf (cfN ns)) 0 (Array.range ns.length).size (srtN ns):=
 pdq_sorts (ltOf (cfN ns)) (swoN ns) _ 0 _ _ true true (dK _) (aN _) (Or.inl rfl)
def zhb(ns:List fC):(srtN ns).toList.Perm (List.range ns.length):=by
 obtain⟨h1,_,h3⟩:=(zqp ns).1
 simp only[Array.size_range]at h1 h3
 have e1:(srtN ns).extract 0 ns.length=srtN ns:=by
  rw[<-h1];simp
 have e2:(Array.range ns.length).extract 0 ns.length=Array.range ns.length:=by
  apply Array.ext<;>simp
 rw[e1,e2]at h3
 simpa using h3
def Tryz.sortN(ns:List fC)(F:Nat->FldV)(hF:∀i,(F i).name=ns.getD i ⟨#[]⟩)(blk off cap:Nat)(w:World)(hH:HoldsK (fun i=>encF (F i)) 5 w blk off (Array.range ns.length))(hblk:blk<w.heap.size)(hsz:ns.length<4611686018427387904):
  Calls Tryz.prog 183 #[.slice (some ⟨blk,off,none⟩) ns.length cap,.func (.func 184) #[] #[]] w fun e w'=>
   e=.returned (.tuple #[])/\∃n os,w'=sortWorldK (fun i=>encF (F i)) 5 w blk off n (srtN ns) os:=by
 have eg:∀args w,(callFunc 184 args).run Tryz.prog w=.ok (.enter 184 args) w:=enters_of Tryz.func184 (by kernel_rfl) rfl
 have hc:CmpLays Tryz.prog 184 #[] (fun i=>encF (F i)) 5 (cfN ns) blk off (Array.range ns.length).size w:=fun m os dk _ x y=>by
  have h:=Tryz.closure184 (F x) (F y) (sortWorldK (fun i=>encF (F i)) 5 w blk off m dk os)
  rw[hF,hF]at h
  exact h
 have h:=AnyQ.slices_SortFunc_eq Tryz.sort183 5 Tryz.isAgg237 Tryz.sizeOf237 (fun i=>encF (F i)) (fun _=>rfl) (fun i=>zDn (F i)) (cfN ns) (swoN ns) 184 #[] blk off cap (Array.range ns.length) w eg hc hH hblk (by simpa using hsz)
 have e:(Array.range ns.length).size=ns.length:=by simp
 unfold srtN
 rw[e]at h⊢
 exact h
end Go.Proofs
namespace Go.Gr.P
open Go.Abs Go.Proofs Go.RowKit Go.Sort Go.Shelf Go.Lib List
def zmb{h:PH}{ρ:RM}:∀{e:List AC} {vs:List Value},zae h ρ e vs↔∀k (hk:k<e.length),∃v,vs[k]?=some v/\v.one1=true/\RepC h ρ e[k] v
 |[],vs=>by simp[zae]
 |c::e,[]=>by
  simp only[zae,getElem?_nil,false_iff]
  intro q
  obtain⟨v,h,_⟩:=q 0 (by simp)
  cases h
 | c::e,v::vs=>by
  simp only[zae]
  rw[zmb (e:=e) (vs:=vs)]
  constructor
  ·rintro⟨⟨h1,h2⟩,h3⟩ k hk
   cases k with
   |zero=>exact⟨v,rfl,h1,h2⟩
   |succ k=>simpa using h3 k (by simpa using hk)
  ·intro q
   obtain⟨v',e1,e2,e3⟩:=q 0 (by simp)
   simp only[getElem?_cons_zero,ah]at e1
   subst e1
   refine⟨⟨e2,e3⟩,fun k hk=>?_⟩
   exact q (k+1) (by simpa using hk)
def zmc{h:PH}{ρ:RM}{s:Nat}:∀{es:List (List AC)} {vs:List Value},zal h ρ s es vs↔∀i (hi:i<es.length),es[i].length=s/\zae h ρ es[i] (vs.drop (i*s))
 |[],vs=>by simp[zal]
 | e::es,vs=>by
  simp only[zal]
  rw[zmc (es:=es) (vs:=vs.drop s)]
  have key:∀i,(vs.drop s).drop (i*s)=vs.drop ((i+1)*s):=fun i=>by rw[drop_drop,ay,bZ,dC]
  constructor
  ·rintro⟨h1,h2,h3⟩ i hi
   cases i with
   |zero=>simpa using ⟨h1,h2⟩
   |succ i=>
    have:=h3 i (by simpa using hi)
    rw[key]at this
    simpa using this
  ·intro q
   have q0:=q 0 (by simp)
   refine⟨by simpa using q0.1,by simpa using q0.2,fun i hi=>?_⟩
   rw[key]
   exact q (i+1) (by simpa using hi)
def rowA(x:fC × List D):List AC:=.d (.str x.1)::x.2.map .d
def sane(v:Value):Value:=if v.oneCell' then v else .bool false
def zkC(v:Value):(sane v).oneCell'=true:=by
 unfold sane;split
 ·assumption
 ·rfl
def zEn(v:Value):v.one1=v.oneCell':=by cases v<;>rfl
def znj{v:Value}(h:v.one1=true):sane v=v:=by rw[zEn]at h;simp[sane,h]
def rowF(ns:List fC)(vs:List Value)(i:Nat):FldV:=
 ⟨ns.getD i ⟨#[]⟩,sane (vs.getD (i*5+1) undef),sane (vs.getD (i*5+2) undef),sane (vs.getD (i*5+3) undef),sane (vs.getD (i*5+4) undef),⟨zkC _,zkC _,zkC _,zkC _⟩⟩
def srtL(xs:List (fC × List D)):List (fC × List D):=(srtN (xs.map (·.1))).toList.map fun i=>xs.getD i (⟨#[]⟩,[])
def zz6(xs:List (fC × List D)):(srtL xs).Perm xs:=by
 have h:=(zhb (xs.map (·.1))).map fun i=>xs.getD i (⟨#[]⟩,[])
 refine h.trans ?_
 have:(List.range (xs.map (·.1)).length).map (fun i=>xs.getD i (⟨#[]⟩,[]))=xs:=by
  apply ext_getElem
  ·simp
  ·intro i h1 h2
   simp[List.getD,h2]
 rw[this]
def zie(xs:List (fC × List D)):(srtL xs).length=xs.length:=(zz6 xs).length_eq
def zrR{h:PH}{ρ:RM}{xs:List (fC × List D)}(h4:∀x,x∈xs->x.2.length=4){vs:List Value}(r:zal h ρ 5 (xs.map rowA) vs){i k:Nat}(hi:i<xs.length)(hk:k<5):
  vs[i*5+k]?=some ((encF (rowF (xs.map (·.1)) vs i))[k]!)/\((encF (rowF (xs.map (·.1)) vs i))[k]!).one1=true/\∀(hq:k<(rowA xs[i]).length),RepC h ρ (rowA xs[i])[k] ((encF (rowF (xs.map (·.1)) vs i))[k]!):=by
 have q:=(zmc.1 r) i (by simpa using hi)
 simp only[getElem_map]at q
 have hl:(rowA xs[i]).length=5:=q.1
 obtain⟨v,e1,e2,e3⟩:=zmb.1 q.2 k (by omega)
 rw[getElem?_drop]at e1
 have key:(encF (rowF (xs.map (·.1)) vs i))[k]! =v:=by
  have hv:vs.getD (i*5+k) undef=v:=by simp[List.getD,e1]
  rcases(show k=0\/k=1\/k=2\/k=3\/k=4 by omega)with rfl|rfl|rfl|rfl|rfl
  ·simp only[rowA,getElem_cons_zero,RepC,RepD]at e3
   simp[encF,rowF,List.getD,hi,e3.1]
  ·simp only[encF,rowF,hv,znj e2];rfl
  ·simp only[encF,rowF,hv,znj e2];rfl
  ·simp only[encF,rowF,hv,znj e2];rfl
  ·simp only[encF,rowF,hv,znj e2];rfl
 rw[key]
 exact⟨e1,e2,fun _=>e3⟩
def put_get{vs:List Value}{d:Array Value}{t:Nat}(h:t<d.size)(hv:t<vs.length):(putCells id 0 d vs.toArray).toList[t]?=some d[t]! :=by
 simp[putCells,h,hv]
def zm8(ns:List fC):(srtN ns).size=ns.length:=by
 have:=(zhb ns).length_eq
 simpa using this
def zE6(ns:List fC){i:Nat}(hi:i<ns.length):(srtN ns)[i]! <ns.length:=by
 have hs:=zm8 ns
 have:(srtN ns)[i]! ∈(srtN ns).toList:=by
  rw[getElem!_pos _ i (by omega)]
  simp
 simpa using (zhb ns).mem_iff.1 this
def zDw(xs:List (fC × List D)){i:Nat}(hi:i<(srtL xs).length):∃hj:(srtN (xs.map (·.1)))[i]! <xs.length,(srtL xs)[i]=xs[(srtN (xs.map (·.1)))[i]!]:=by
 have hi':i<xs.length:=by rw[zie]at hi;exact hi
 have hs:=zm8 (xs.map (·.1))
 simp only[aU]at hs
 have hlt:=zE6 (xs.map (·.1)) (i:=i) (by simpa using hi')
 simp only[aU]at hlt
 refine⟨hlt,?_⟩
 have e:(srtL xs)[i]?=some xs[(srtN (xs.map (·.1)))[i]!]:=by
  have e1:(srtN (xs.map (·.1))).toList[i]?=some (srtN (xs.map (·.1)))[i]! :=by
   rw[getElem!_pos _ i (by omega)]
   simp
  unfold srtL
  rw[getElem?_map,e1]
  simp[List.getD,hlt]
 rw[aA hi]at e
 exact bK e
def zzq{h:PH}{ρ:RM}{xs:List (fC × List D)}(h4:∀x,x∈xs->x.2.length=4){vs:List Value}(hvl:xs.length*5<=vs.length)(r:zal h ρ 5 (xs.map rowA) vs):
  zal h ρ 5 ((srtL xs).map rowA) (putCells id 0 (flatK (fun i=>encF (rowF (xs.map (·.1)) vs i)) 5 (srtN (xs.map (·.1)))) vs.toArray).toList:=by
 have hs:=zm8 (xs.map (·.1))
 simp only[aU]at hs
 refine zmc.2 fun i hi=>?_
 have hi':i<(srtL xs).length:=by simpa using hi
 have hin:i<xs.length:=by rw[zie]at hi';exact hi'
 obtain⟨hj,e⟩:=zDw xs hi'
 have hl:(rowA xs[(srtN (xs.map (·.1)))[i]!]).length=5:=by
  simp[rowA,h4 _ (aS hj)]
 simp only[getElem_map,e]
 refine⟨hl,zmb.2 fun k hk=>?_⟩
 have hk5:k<5:=by omega
 obtain⟨_,q2,q3⟩:=zrR h4 r hj hk5
 refine⟨_,?_,q2,q3 hk⟩
 rw[getElem?_drop,put_get (by simp[hs];omega) (by omega),get_flatK _ _ _ _ (by rw[hs];omega),show(i*5+k)/5=i by omega,show(i*5+k)%5=k by omega]
def zzr{h:PH}{ρ:RM}{xs:List (fC × List D)}(h4:∀x,x∈xs->x.2.length=4){vs:List Value}(r:zal h ρ 5 (xs.map rowA) vs){w:World}{B:Nat}{T:TypeId}(hw:w.heap[B]?=some (.cells vs.toArray T (0,0))):
  HoldsK (fun i=>encF (rowF (xs.map (·.1)) vs i)) 5 w B 0 (Array.range (xs.map (·.1)).length):=fun j hj=>by
 have hj':j<xs.length*5:=by simpa using hj
 have hd:j/5<xs.length:=by omega
 obtain⟨q1,_,_⟩:=zrR h4 r hd (k:=j%5) (by omega)
 rw[show j/5*5+j%5=j by omega]at q1
 rw[get_flatK _ _ _ _ (by simpa using hj')]
 have e:(Array.range (xs.map (·.1)).length)[j/5]! =j/5:=by simp[hd]
 rw[e]
 refine⟨?_,by simp[World.frozen?,hw]⟩
 simp only[World.cell?,hw,Nat.zero_add,id]
 simpa using q1
def zDR(L:Nat->Bool):∀l:List D,AC.lvs L (l.map .d)=true
 |[]=>by simp[AC.lvs]
 |d::l=>by simp[AC.lvs,AC.lv,zDR L l]
def zEf(L:Nat->Bool)(x:fC × List D):AC.lvs L (rowA x)=true:=by
 simp[rowA,AC.lvs,AC.lv,zDR]
def zEg(b c:Blk):upd (hpOf [b]) 0 c=hpOf [c]:=by
 funext i
 cases i with
 |zero=>simp[upd]
 |succ i=>simp[upd]
def zzK{α:Type} [Inhabited α](enc:α->List Value)(k:Nat)(w:World)(B n:Nat)(d:Array α)(os:Array Obj){vs:Array Value}{T:TypeId}(hw:w.heap[B]?=some (.cells vs T (0,0))):
  (sortWorldK enc k w B 0 n d os).heap=w.heap.setIfInBounds B (.cells (putCells id 0 (flatK enc k d) vs) T (0,0))++os:=by
 simp only[sortWorldK,putRowK,putRow,mapBlock,Go.Sort.grow,Go.Sort.ahead]
 congr 1
 apply Array.ext_getElem?
 intro i
 simp only[Array.getElem?_modify,Array.getElem?_setIfInBounds]
 by_cases hi:B=i
 ·subst hi
  have hlt:B<w.heap.size:=by
   rcases aW B w.heap.size with q|q
   ·exact q
   ·rw[aj q]at hw;cases hw
  rw[bH hlt]at hw
  have hw:=bK hw
  simp[hlt,hw,onCells]
 ·simp[hi]
def zwd(xs:List (fC × List D))(h4:∀x,x∈xs->x.2.length=4)(h0:0<xs.length)(hl:xs.length<=1073741824):
  MCall Pg 183 [.c (.msl 5 0 0 xs.length),.c (.d (.fn (.func 184) []))] [.arr 5 (xs.map rowA)] (.tup []) [.arr 5 ((srtL xs).map rowA)]:=by
 refine⟨by decide+kernel,aN _,zfC (by simp),by simp,by simp[zEf],fun h ρ w argsC K _ r=>?_⟩
 match argsC,r with
 | [v1,v2],r=>
  simp only[zas,RepV,RepC,RepD,and_true]at r
  obtain⟨⟨p,a,e1,e2,e3,e4,e5⟩,us,f1,f2,f3⟩:=r
  have us0:us=[]:=aT.1 (by simpa using f2)
  subst us0
  subst f1
  have hpo:=K.own 0 p e1
  simp only[zrY]at hpo
  have hx:xs.map rowA≠[]:=by
   intro q
   have:=dL length q
   simp only[aU,length_nil]at this
   omega
  rcases hpo with⟨_,q⟩|⟨vs,T,hw,hvl,hel,hlm,rce⟩
  ·exact absurd q hx
  have hel':xs.length<=p.2:=by simpa using hel
  have hp2:0<p.2:=by omega
  obtain rfl:=e4 hp2
  have hB:p.1<w.heap.size:=by
   rcases aW p.1 w.heap.size with q|q
   ·exact q
   ·rw[aj q]at hw;cases hw
  have hvl':xs.length*5<=vs.length:=by rw[hvl];exact bX 5 hel'
  subst e2
  have hsz:(xs.map (·.1)).length<4611686018427387904:=by rw[aU];omega
  have hs:=Tryz.sortN (xs.map (·.1)) (rowF (xs.map (·.1)) vs) (fun i=>rfl) p.1 0 (p.2-0) w (zzr h4 rce hw) hB hsz
  simp only[aU]at hs
  refine hs.mono fun e w' q=>?_
  obtain⟨rfl,n,os,rfl⟩:=q
  have hrep:=zzq h4 hvl' rce
  have hheap:=zzK (fun i=>encF (rowF (xs.map (·.1)) vs i)) 5 w p.1 n (srtN (xs.map (·.1))) os hw
  have hcl:(putCells id 0 (flatK (fun i=>encF (rowF (xs.map (·.1)) vs i)) 5 (srtN (xs.map (·.1)))) vs.toArray).toList.length=p.2*5:=by simp[putCells,hvl]
  generalize putCells id 0 (flatK (fun i=>encF (rowF (xs.map (·.1)) vs i)) 5 (srtN (xs.map (·.1)))) vs.toArray=cs at*
  have hbr:zaH h ρ p (.arr 5 ((srtL xs).map rowA)) (w.heap.setIfInBounds p.1 (.cells cs T (0,0))):=by
   refine .inr ⟨cs.toList,T,by simp[hB],hcl,by simpa[zie]using hel',by simpa[zie]using hlm,hrep⟩
  have hreal:Real (hpOf [Blk.arr 5 (xs.map rowA)] 0) p:=hp2
  obtain⟨K1,S1⟩:=K.set (.cells cs T (0,0)) e1 hreal (blk:=.arr 5 ((srtL xs).map rowA)) (by simp) hbr
  rw[zEg]at K1 S1
  have hold:∀B,B<(w.heap.setIfInBounds p.1 (.cells cs T (0,0))).size->(w.heap.setIfInBounds p.1 (.cells cs T (0,0))++os)[B]?=(w.heap.setIfInBounds p.1 (.cells cs T (0,0)))[B]?:=fun B hB=>Array.getElem?_append_left hB
  have K2:HRel h ρ (hpOf [Blk.arr 5 ((srtL xs).map rowA)]) (w.heap.setIfInBounds p.1 (.cells cs T (0,0))++os):=
   K1.grow (fT h) (fun B o e=>by rw[hold B (K1.lt e)];exact K1.pers B o e) fun B hB _=>⟨hold B hB,rfl⟩
  have S2:Step h ρ (hpOf [Blk.arr 5 ((srtL xs).map rowA)]) (w.heap.setIfInBounds p.1 (.cells cs T (0,0))) h ρ (hpOf [Blk.arr 5 ((srtL xs).map rowA)]) (w.heap.setIfInBounds p.1 (.cells cs T (0,0))++os):=
   ⟨fT h,fun B hB _=>rfl,fU _,by simp,fun B hB _=>hold B hB,fun b p e hr=>.inr ⟨b,p,e,hr,rfl⟩⟩
  refine⟨.tuple #[],h,ρ,rfl,?_,?_,⟨rfl,rfl,rfl⟩,⟨[],rfl,by simp[zas]⟩,fun _ _=>rfl⟩
  ·rw[hheap];exact S1.wk.trans S2
  ·rw[hheap];exact K2
def zwe:MCall Pg 183 [.c (.msl 5 0 0 0),.c (.d (.fn (.func 184) []))] [.arr 5 []] (.tup []) [.arr 5 []]:=by
 refine⟨by decide+kernel,aN _,zfC (by simp),by simp,by simp,fun h ρ w argsC K _ r=>?_⟩
 match argsC,r with
 |[v1,v2],r=>
  simp only[zas,RepV,RepC,RepD,and_true]at r
  obtain⟨⟨p,a,e1,e2,e3,e4,e5⟩,us,f1,f2,f3⟩:=r
  subst e2
  have hs:=AnyF.slices_SortFunc_none (P:=Tryz.prog) (ρ:=Tryz.sort183_ren) {Tryz.sort183 with} a (p.2-0) v2 w
  refine Calls.mono hs fun e w' q=>?_
  obtain⟨rfl,rfl⟩:=q
  exact⟨.tuple #[],h,ρ,rfl,(Step.refl _ _ _ _).wk,K,⟨rfl,rfl,rfl⟩,⟨[],rfl,by simp[zas]⟩,fun _ _=>rfl⟩
def zx8(xs:List (fC × List D))(h4:∀x,x∈xs->x.2.length=4)(hl:xs.length<=1073741824):
  MCall Pg 183 [.c (.msl 5 0 0 xs.length),.c (.d (.fn (.func 184) []))] [.arr 5 (xs.map rowA)] (.tup []) [.arr 5 ((srtL xs).map rowA)]:=by
 rcases Nat.eq_zero_or_pos xs.length with h0|h0
 ·have e:xs=[]:=aT.1 h0
  have e2:srtL xs=[]:=aT.1 (by rw[zie];exact h0)
  rw[e2,e]
  exact zwe
 ·exact zwd xs h4 h0 hl
end Go.Gr.P
namespace Go.Gr.P
open Go.Abs Go.Proofs List
def noT:Typ:=.mk 0 (bs []) [] []
def srtT(xs:List (fC × Typ)):List (fC × Typ):=(srtN (xs.map (·.1))).toList.map fun i=>xs.getD i (⟨#[]⟩,noT)
def zsj(xs:List (fC × Typ)):(srtT xs).Perm xs:=by
 have h:=(zhb (xs.map (·.1))).map fun i=>xs.getD i (⟨#[]⟩,noT)
 refine h.trans ?_
 have:(List.range (xs.map (·.1)).length).map (fun i=>xs.getD i (⟨#[]⟩,noT))=xs:=by
  apply ext_getElem
  ·simp
  ·intro i h1 h2
   simp[List.getD,h2]
 rw[this]
def rowT(x:fC × Typ):fC × List D:=(x.1,x.2.enc)
def zAD(xs:List (fC × Typ)){i:Nat}(hi:i<xs.length):(xs.map rowT).getD i (⟨#[]⟩,[])=rowT (xs.getD i (⟨#[]⟩,noT)):=by
 simp[List.getD,hi]
attribute [local irreducible] srtN in
def zAE(xs:List (fC × Typ)):srtL (xs.map rowT)=(srtT xs).map rowT:=by
 have e:(xs.map rowT).map (·.1)=xs.map (·.1):=by simp[rowT]
 have hp:=zhb (xs.map (·.1))
 unfold srtL srtT
 rw[e]
 generalize (srtN (xs.map (·.1))).toList=l at hp⊢
 rw[bJ]
 refine bO fun i hi=>?_
 have hi':=hp.mem_iff.1 hi
 simp only[mem_range,aU]at hi'
 exact zAD xs hi'
def unlk(l:List fC)(j:Nat):Bool:=decide (j=0)|| !decide (l.getD (j-1) ⟨#[]⟩=l.getD j ⟨#[]⟩)
def adjB(l:List fC):Bool:=(List.range l.length).all (unlk l)
def recP(ns:List fC)(ts:List Typ):Typ × Bool:=
 if ns.length≠ts.length\/16<ns.length then(noT,false)
 else if ns.all zkM=true/\adjB ((srtT (ns.zip ts)).map (·.1))=true then(.mk 5 (bs []) ((srtT (ns.zip ts)).map (·.1)) ((srtT (ns.zip ts)).map (·.2)),true)
 else(noT,false)
abbrev recT(ns:List fC)(ts:List Typ)(j:Nat):List (Nat × AV):=[(1,.c (.d (.sl false 4 (ts.map Typ.enc)))),(4,.c (.ptr 0 0)),(6,.c (.msl 5 1 0 j)),(23,.c (.d (.sl false 1 (encS ns)))),(24,.c (.d (.int .i64 ns.length))),(25,.c (.d (.int .i64 j)))]
def rowD(x:fC × Typ):List D:=.str x.1::x.2.enc
abbrev recB(xs:List (fC × Typ)):Blk:=.arr 5 ((xs.map rowD).map (·.map .d))
def zxs(xs:List (fC × Typ)):(xs.map rowT).map rowA=(xs.map rowD).map (·.map .d):=by
 rw[bJ,bJ];try rfl
def spl(n:fC)(t:Typ):splice [AC.d (D.str n),AC.d (D.int IntKind.i64 0),AC.d (D.str (bs [])),AC.d (D.sl true 1 []),AC.d (D.sl true 4 [])] 1 (List.map AC.d t.enc)=(rowD (n,t)).map .d:=by
 obtain⟨k,m,s,l⟩:=t
 simp[splice,Typ.enc,rowD]
def zCH(x:fC × Typ):(rowD x).length=5:=by
 obtain⟨n,⟨k,m,s,l⟩⟩:=x
 simp[Typ.enc,rowD]
def zFL{c:Ctx}(hp:c.pure)(ns:List fC)(ts:List Typ)(hn:ns.length=ts.length)(h16:ns.length<=16){Q:Exit->St->Prop}{S:St}{g}{ms:List Nat}
  (h0:Match ms S (recT ns ts 0) [box4,recB []])
  (hF:ns.all zkM=false->∀T M n,Abs.look T 4=.c (.ptr 0 0)->Abs.look T 5=.c (.d (.bool false))->M 0=box4->Q .ret ⟨T,M,n⟩)
  (hQ:ns.all zkM=true->∀T,Abs.look T 4=.c (.ptr 0 0)->Abs.look T 6=.c (.msl 5 1 0 ns.length)->
   Q (.exit 0) ⟨T,hpOf [box4,recB (ns.zip ts)],2⟩):lw_ Pg c ze3 Q g S:=by
 refine fK zaa hp (fun j:Nat=>j<=ns.length/\(ns.take j).all zkM=true) (fun j=>recT ns ts j)
  (fun j=>[box4,recB ((ns.zip ts).take j)]) (fun j=>ns.length-j) 0 ms ⟨by simp,by simp⟩ (by simpa using h0) fun j ⟨h1,h2⟩=>?_
 unfold ze3
 simp
 apply gI<;>intro h
 ·have hj:j<ns.length:=by simpa using h
  have ht:j<ts.length:=by omega
  simp[aA hj,encS]
  refine gN (zns ns[j]) ?_
  simp
  apply gI<;>intro hb
  ·simp at hb
   refine hF ?_ _ _ _ (by simp) (by simp) (by simp)
   rw[List.all_eq_false]
   exact⟨ns[j],aS hj,by simp[hb]⟩
  ·simp at hb
   have hz:j<(ns.zip ts).length:=by simp[length_zip];omega
   have htk:(ns.zip ts).take (j+1)=(ns.zip ts).take j++[(ns[j],ts[j])]:=by
    rw[aJ hz,getElem_zip]
   have hall:(ns.take (j+1)).all zkM=true:=by
    rw[aJ hj,all_append,h2];simp[hb]
   simp[aA ht,spl,zCH]
   refine⟨by omega,by omega,?_⟩
   refine fD (j+1) [0,2] ⟨by omega,hall⟩ (by omega) ?_
   rw[htk]
   simp
   refine⟨wI,by rw[take_take,dx];exact⟨rfl,rfl⟩,fun x hx=>?_⟩
   obtain⟨y,_,rfl⟩:=ai.1 (bW hx)
   simp
 ·have hj:j=ns.length:=by simp at h;omega
  subst hj
  simp only[bS]at h2
  have hz:(ns.zip ts).take ns.length=ns.zip ts:=aF (by simp[length_zip];omega)
  rw[hz]
  exact hQ h2 _ (by simp) (by simp)
abbrev zD0(xs:List (fC × Typ))(j:Nat):List (Nat × AV):=[(4,.c (.ptr 0 0)),(6,.c (.d (.sl false 5 (xs.map rowD)))),(9,.c (.ptr 2 0)),(47,.c (.d (.sl false 5 (xs.map rowD)))),(48,.c (.d (.int .i64 xs.length))),(49,.c (.d (.int .i64 j)))]
abbrev zqh(xs:List (fC × Typ))(j:Nat):List Blk:=[box4,.dead,.box [.d (.int .i64 5),.d (.str (bs [])),.msl 1 3 0 j,.msl 4 4 0 j],.arr 1 (((xs.take j).map fun x=>[D.str x.1]).map (·.map .d)),.arr 4 (((xs.take j).map fun x=>x.2.enc).map (·.map .d))]
def zEE{c:Ctx}(hp:c.pure)(xs:List (fC × Typ))(h16:xs.length<=16){Q:Exit->St->Prop}{S:St}{g}{ms:List Nat}
  (h0:Match ms S (zD0 xs 0) (zqh xs 0))
  (hF:adjB (xs.map (·.1))=false->∀T M n,Abs.look T 4=.c (.ptr 0 0)->Abs.look T 5=.c (.d (.bool false))->M 0=box4->Q .ret ⟨T,M,n⟩)
  (hQ:adjB (xs.map (·.1))=true->∀T,Abs.look T 4=.c (.ptr 0 0)->Abs.look T 9=.c (.ptr 2 0)->
   Q (.exit 2) ⟨T,hpOf (zqh xs xs.length),5⟩):lw_ Pg c ze4 Q g S:=by
 refine fK zaa hp (fun j:Nat=>j<=xs.length/\(List.range j).all (unlk (xs.map (·.1)))=true) (fun j=>zD0 xs j)
  (fun j=>zqh xs j) (fun j=>xs.length-j) 0 ms ⟨by simp,by simp⟩ (by simpa using h0) fun j ⟨h1,h2⟩=>?_
 unfold ze4
 simp
 apply gI<;>intro h
 ·have hj:j<xs.length:=by simpa using h
  have hadj:unlk (xs.map (·.1)) j=false->adjB (xs.map (·.1))=false:=fun e=>by
   unfold adjB
   rw[List.all_eq_false]
   exact⟨j,by simpa using hj,by simp[e]⟩
  have hnext:unlk (xs.map (·.1)) j=true->(List.range (j+1)).all (unlk (xs.map (·.1)))=true:=fun e=>by
   rw[range_succ,all_append,h2];simp[e]
  have htk:xs.take (j+1)=xs.take j++[xs[j]]:=aJ hj
  rcases hx:xs[j]with⟨nm,⟨k,m,s,l⟩⟩
  rw[hx]at htk
  rcases Nat.eq_zero_or_pos j with h0j|h0j
  ·subst h0j
   have hu:unlk (xs.map (·.1)) 0=true:=by simp[unlk]
   simp[aA hj,hx,rowD,Typ.enc,cut]
   refine⟨by decide,by decide,fD 1 [0,1,2,6,7] ⟨by omega,hnext hu⟩ (by omega) ?_⟩
   have htk':xs.take 1=[(nm,.mk k m s l)]:=by simpa using htk
   unfold zqh
   simp only[htk']
   simp[Typ.enc]
   decide
  ·have hi:j-1<xs.length:=by omega
   have hwr:IntKind.i64.wrap ((j:Int)-1)=((j-1:Nat):Int):=by rw[show((j:Int)-1)=((j-1:Nat):Int) by omega];exact wI
   rcases hy:xs[j-1]with⟨nm2,⟨k2,m2,s2,l2⟩⟩
   have hu:unlk (xs.map (·.1)) j= !decide (nm2=nm):=by
    simp[unlk,List.getD,hj,hi,hx,hy];omega
   simp[aA hj,aA hi,hx,hy,hwr,h0j,rowD,Typ.enc,cut]
   refine⟨by decide,gI (fun hb=>?_) (fun hb=>?_)⟩
   ·exact hF (hadj (by rw[hu];simpa using hb)) _ _ _ (by simp) (by simp) (by simp)
   ·refine⟨by omega,by omega,by omega,by omega,by decide,?_⟩
    refine fD (j+1) [0,1,2,6,7] ⟨by omega,hnext (by rw[hu];simpa using hb)⟩ (by omega) ?_
    unfold zqh
    simp only[htk]
    simp[Typ.enc]
    refine⟨wI,⟨by rw[take_take,dx],fun x hx=>?_⟩,by rw[take_take,dx],fun x hx=>?_⟩
    ·obtain⟨y,_,rfl⟩:=ai.1 (bW hx)
     simp
    ·obtain⟨y,_,rfl⟩:=ai.1 (bW hx)
     simp
 ·have hj:j=xs.length:=by simp at h;omega
  subst hj
  exact hQ (by unfold adjB;rw[aU];exact h2) _ (by simp) (by simp)
def zmF(ns:List fC)(ts:List Typ):PCall Pg 166 [.one (.sl false 1 (encS ns)),.one (.sl false 4 (ts.map Typ.enc))] (.tup [.agg (recP ns ts).1.enc,.one (.bool (recP ns ts).2)]):=by
 refine zrn (by simp) fun o c hN hp=>?_
 have hl1:ns.length<=zaf:=by
  have:=o.1;simp only[DV.ok,D.ok,encS,aU]at this;exact this.1
 have hl2:ts.length<=zaf:=by
  have:=o.2.1;simp only[DV.ok,D.ok,aU]at this;exact this.1
 unfold zaf at hl1 hl2
 unfold zji
 simp
 apply gI<;>intro h
 ·have hn:ns.length=ts.length:=by simp at h;omega
  apply gI<;>intro h2
  ·have e:recP ns ts=(noT,false):=by
    unfold recP;rw[aC (.inr (by simp at h2;omega))]
   rw[e]
   simp[noT,Typ.enc,Typ.encs,encS]
  ·have h16:ns.length<=16:=by simp at h2;omega
   refine fQ [.t 6] ?_
   simp
   refine zFL hp ns ts hn h16 (ms:=[0,1]) (by simp) (fun hf T M n e4 e5 m0=>?_) fun ht T e4 e6=>?_
   ·have e:recP ns ts=(noT,false):=by
     unfold recP;rw[aB (by omega),aB (by simp[hf])]
    rw[e]
    simp[e4,e5,m0,noT,Typ.enc,Typ.encs,encS]
   ·simp[e4,e6]
    have hs:=zx8 ((ns.zip ts).map rowT) (fun x hx=>by
     obtain⟨y,_,rfl⟩:=ai.1 hx
     obtain⟨_,⟨k,n,s,l⟩⟩:=y
     simp[rowT,Typ.enc]) (by simp[length_zip];omega)
    rw[aU,length_zip,<-hn,dx,zAE,zxs,zxs]at hs
    refine gK [1] hs ?_
    have hrec:recP ns ts=if adjB ((srtT (ns.zip ts)).map (·.1))=true then(.mk 5 (bs []) ((srtT (ns.zip ts)).map (·.1)) ((srtT (ns.zip ts)).map (·.2)),true)else(noT,false):=by
     unfold recP;rw[aB (by omega)];simp only[ht,true_and]
    have hxl:(srtT (ns.zip ts)).length=ns.length:=by rw[(zsj _).length_eq,length_zip];omega
    clear hs
    rw[hrec]
    generalize srtT (ns.zip ts)=xs at*
    have h16':xs.length<=16:=by omega
    rw[<-hxl]at e6⊢
    simp
    refine fP [1] ?_
    simp[zah,e4,e6]
    refine fQ [.c 2 2,.c 2 3] ?_
    have htl:take xs.length (xs.map rowD)=xs.map rowD:=aF (by simp)
    simp[zah,e4,e6,htl]
    refine zEE hp xs h16' (ms:=[0,1,2,3,4]) (by simp[zah,e4,e6,htl]) (fun hf T M n e4 e5 m0=>?_) fun ha T e4 e9=>?_
    ·rw[aB (by simp[hf])]
     simp[e4,e5,m0,noT,Typ.enc,Typ.encs,encS]
    ·rw[aC ha]
     simp[e4,e9,Typ.enc,Typ.encs,encS]
     refine⟨?_,?_⟩
     ·rw[aF (by simp)];try rfl
     ·rw[aF (by simp),Typ.encs_map,bJ];try rfl
 ·have e:recP ns ts=(noT,false):=by
   unfold recP;rw[aC (.inl (by simp at h;omega))]
  rw[e]
  simp[noT,Typ.enc,Typ.encs,encS]
end Go.Gr.P
namespace Go.Gr.P
open Go.Abs Go.Proofs List
def finP(k:Int)(s:List fC)(l:List Typ):Typ × Bool:=
 if k=5 then recP s l else if k=6 then(.mk 6 (bs []) [] l,decide (l.length=2))else zd2 l
mutual
def zaS:Typ->Typ × Bool
 |.mk k _ s l=>if 5<=k/\k<=7 then(if(zaY l).2=true then finP k s (zaY l).1 else(noT,false))else if 0<=k/\k<=4 then(.mk k (bs []) [] [],true)else(noT,false)
def zaY:List Typ->List Typ × Bool
 |[]=>([],true)
 |t::l=>if(zaS t).2=true then((zaS t).1::(zaY l).1,(zaY l).2)else([],false)
end
def zB1(t:Typ):zaS t=if 5<=t.kind/\t.kind<=7 then(if(zaY t.kids).2=true then finP t.kind t.names (zaY t.kids).1 else(noT,false))else if 0<=t.kind/\t.kind<=4 then(.mk t.kind (bs []) [] [],true)else(noT,false):=by
 cases t;rw[zaS];try rfl
abbrev nrmT(t:Typ)(j:Nat):List (Nat × AV):=[(1,.c (.d (.rp t.enc 0))),(2,.c (.ptr 0 0)),(4,.c (.msl 4 1 0 j)),(18,.c (.d (.sl false 4 (t.kids.map Typ.enc)))),(19,.c (.d (.int .i64 t.kids.length))),(20,.c (.d (.int .i64 j)))]
abbrev nrmB(l:List Typ):List Blk:=[box4,.arr 4 ((l.map Typ.enc).map (·.map .d))]
def zh6{c:Ctx}(hp:c.pure)(t:Typ)(hl:t.kids.length<=1000)(ih:∀e,e∈t.kids->PCall Pg 143 [.agg e.enc] (.tup [.agg (zaS e).1.enc,.one (.bool (zaS e).2)])){Q:Exit->St->Prop}{S:St}{g}{ms:List Nat}
  (h0:Match ms S (nrmT t 0) (nrmB []))
  (hF:(zaY t.kids).2=false->∀T M n,Abs.look T 2=.c (.ptr 0 0)->Abs.look T 3=.c (.d (.bool false))->M 0=box4->Q .ret ⟨T,M,n⟩)
  (hQ:(zaY t.kids).2=true->∀T,Abs.look T 1=.c (.d (.rp t.enc 0))->Abs.look T 2=.c (.ptr 0 0)->Abs.look T 4=.c (.msl 4 1 0 (zaY t.kids).1.length)->
   Q (.exit 0) ⟨T,hpOf (nrmB (zaY t.kids).1),2⟩):lw_ Pg c zf6 Q g S:=by
 refine fK zaa hp (fun x:Nat × List Typ=>x.1<=t.kids.length/\x.2.length=x.1/\zaY t.kids=(x.2++(zaY (t.kids.drop x.1)).1,(zaY (t.kids.drop x.1)).2)) (fun x=>nrmT t x.1)
  (fun x=>nrmB x.2) (fun x=>t.kids.length-x.1) (0,[]) ms ⟨by simp,rfl,by simp⟩ h0 fun⟨j,acc⟩ ⟨h1,h3,h2⟩=>?_
 unfold zf6
 simp only at h1 h2 h3
 simp
 apply gI<;>intro h
 ·have hj:j<t.kids.length:=by simpa using h
  rw[aG hj,zaY]at h2
  have hc:∀e:Typ,cut e.enc 0 4=e.enc:=fun e=>by unfold cut;simp
  have hc2:∀e:Typ,cut (e.enc.map AC.d) 0 4=e.enc.map AC.d:=fun e=>by unfold cut;simp
  simp[aA hj,hc,hc2]
  refine gN (ih _ (aS hj)) ?_
  simp[hc,hc2]
  apply gI<;>intro hb
  ·simp at hb
   rw[aB (by simp[hb])]at h2
   refine hF (by rw[h2]) _ _ _ (by simp) (by simp) (by simp)
  ·simp at hb
   rw[aC hb]at h2
   refine⟨by omega,by omega,?_⟩
   refine fD (j+1,acc++[(zaS t.kids[j]).1]) [0,4] ⟨by simp only;omega,by simp[h3],by rw[h2];simp⟩ (by simp;omega) ?_
   simp
   exact⟨wI,aF (by simp;omega)⟩
 ·have hj:j=t.kids.length:=by simp at h;omega
  subst hj
  rw[aO,zaY]at h2
  simp only[bL]at h2
  rw[h2]at hQ
  have:=hQ rfl
  simp only[h3]at this
  exact this _ (by simp) (by simp) (by simp)
def zFF(t:Typ)(hk:t.kind=5)(hl:t.kids.length<=1000)(ih:∀e,e∈t.kids->PCall Pg 143 [.agg e.enc] (.tup [.agg (zaS e).1.enc,.one (.bool (zaS e).2)])):
  PCall Pg 143 [.agg t.enc] (.tup [.agg (if(zaY t.kids).2=true then recP t.names (zaY t.kids).1 else(noT,false)).1.enc,.one (.bool (if(zaY t.kids).2=true then recP t.names (zaY t.kids).1 else(noT,false)).2)]):=by
 refine zf7 (by simp) fun o c hN hp=>?_
 unfold zd0
 simp[hk]
 refine fQ [.t 4] ?_
 simp[hk]
 refine zh6 hp t hl ih (ms:=[0,1]) (by simp) (fun hf T M n e2 e3 m0=>?_) fun ha T e1 e2 e4=>?_
 ·rw[aB (by simp[hf])]
  simp[e2,e3,m0,noT,Typ.enc,Typ.encs,encS]
 ·rw[aC ha]
  simp[e1,e2,e4,hk]
  generalize (zaY t.kids).1=l at*
  refine fP [1] ?_
  have htl:take l.length (l.map Typ.enc)=l.map Typ.enc:=aF (by simp)
  simp[zah,e1,e2,e4,htl]
  refine gN (zmF t.names l) ?_
  have hc:∀e:Typ,cut e.enc 0 4=e.enc:=fun e=>by unfold cut;simp
  simp[zah,e1,e2,e4,htl,hc]<;>(rw[Typ.enc_eq];simp[D.er])
def zFG(t:Typ)(hk:t.kind=7)(hl:t.kids.length<=1000)(ih:∀e,e∈t.kids->PCall Pg 143 [.agg e.enc] (.tup [.agg (zaS e).1.enc,.one (.bool (zaS e).2)])):
  PCall Pg 143 [.agg t.enc] (.tup [.agg (if(zaY t.kids).2=true then zd2 (zaY t.kids).1 else(noT,false)).1.enc,.one (.bool (if(zaY t.kids).2=true then zd2 (zaY t.kids).1 else(noT,false)).2)]):=by
 refine zf7 (by simp) fun o c hN hp=>?_
 unfold zd0
 simp[hk]
 refine fQ [.t 4] ?_
 simp[hk]
 refine zh6 hp t hl ih (ms:=[0,1]) (by simp) (fun hf T M n e2 e3 m0=>?_) fun ha T e1 e2 e4=>?_
 ·rw[aB (by simp[hf])]
  simp[e2,e3,m0,noT,Typ.enc,Typ.encs,encS]
 ·rw[aC ha]
  simp[e1,e2,e4,hk]
  generalize (zaY t.kids).1=l at*
  refine fP [1] ?_
  have htl:take l.length (l.map Typ.enc)=l.map Typ.enc:=aF (by simp)
  simp[zah,e1,e2,e4,htl]
  refine gN (zoH l) ?_
  have hc:∀e:Typ,cut e.enc 0 4=e.enc:=fun e=>by unfold cut;simp
  simp[zah,e1,e2,e4,htl,hc]<;>(rw[Typ.enc_eq];simp[D.er])
def zFH(t:Typ)(hk:t.kind=6)(hl:t.kids.length<=1000)(ih:∀e,e∈t.kids->PCall Pg 143 [.agg e.enc] (.tup [.agg (zaS e).1.enc,.one (.bool (zaS e).2)])):
  PCall Pg 143 [.agg t.enc] (.tup [.agg (if(zaY t.kids).2=true then(Typ.mk 6 (bs []) [] (zaY t.kids).1,decide ((zaY t.kids).1.length=2))else(noT,false)).1.enc,.one (.bool (if(zaY t.kids).2=true then(Typ.mk 6 (bs []) [] (zaY t.kids).1,decide ((zaY t.kids).1.length=2))else(noT,false)).2)]):=by
 refine zf7 (by simp) fun o c hN hp=>?_
 unfold zd0
 simp[hk]
 refine fQ [.t 4] ?_
 simp[hk]
 refine zh6 hp t hl ih (ms:=[0,1]) (by simp) (fun hf T M n e2 e3 m0=>?_) fun ha T e1 e2 e4=>?_
 ·rw[aB (by simp[hf])]
  simp[e2,e3,m0,noT,Typ.enc,Typ.encs,encS]
 ·rw[aC ha]
  simp[e1,e2,e4,hk]
  generalize (zaY t.kids).1=l at*
  refine fP [1] ?_
  have htl:take l.length (l.map Typ.enc)=l.map Typ.enc:=aF (by simp)
  simp[zah,e1,e2,e4,htl]
  simp[Typ.enc,Typ.encs_map,encS,D.er]
  omega
end Go.Gr.P
namespace Go.Gr.P
open Go.Abs Go.Proofs
mutual
def fewT:Typ->Prop
 |.mk _ _ _ l=>l.length<=200/\zb7 l
def zb7:List Typ->Prop
 |[]=>True
 |t::l=>fewT t/\zb7 l
end
def zg7:∀l:List Typ,zb7 l↔∀x,x∈l->fewT x
 |[]=>by simp[zb7]
 |t::l=>by simp[zb7,zg7 l]
def ziv(t:Typ):fewT t↔t.kids.length<=200/\∀x,x∈t.kids->fewT x:=by
 cases t;simp only[fewT,zg7,Typ.kids]
def zFc(t:Typ):1<=tsz t:=by
 have key:∀(l:List Typ) (n:Nat),n<=tszs l n:=fun l=>by
  induction l with
  |nil=>intro n;rw[tszs];omega
  |cons t l ih=>intro n;rw[tszs];split;omega;have:=ih (n+tsz t);omega
 rw[zmj];have:=key t.kids 1;omega
def zvR:∀(l:List Typ) (n:Nat),n<=200->tszs l n<=200->n+l.length<=200/\∀x,x∈l->tsz x<=200
 |[],n,hn,_=>⟨by simpa using hn,fun x hx=>by cases hx⟩
 | t::l,n,hn,h=>by
  rw[tszs,aB (by omega)]at h
  have h1:=zFc t
  by_cases q:n+tsz t<=200
  ·obtain⟨p1,p2⟩:=zvR l (n+tsz t) q h
   refine⟨by simp only[List.length_cons];omega,fun x hx=>?_⟩
   rcases aM.1 hx with rfl|hx
   ·omega
   ·exact p2 x hx
  ·rw[zAl (by omega)]at h;omega
mutual
def zrE:∀t:Typ,tsz t<=200->fewT t
 |.mk k n s l,h=>by
  rw[zmj]at h
  simp only[Typ.kids]at h
  obtain⟨p1,p2⟩:=zvR l 1 (by omega) (by omega)
  rw[fewT]
  exact⟨by omega,zvS l p2⟩
def zvS:∀l:List Typ,(∀x,x∈l->tsz x<=200)->zb7 l
 |[],_=>by rw[zb7];trivial
 |t::l,h=>by
  rw[zb7]
  exact⟨zrE t (h t (by simp)),zvS l fun x hx=>h x (by simp[hx])⟩
end
def zF8(t:Typ)(h5:¬(5<=t.kind/\t.kind<=7)):
  PCall Pg 143 [.agg t.enc] (.tup [.agg (if 0<=t.kind/\t.kind<=4 then(Typ.mk t.kind (bs []) [] [],true)else(noT,false)).1.enc,.one (.bool (if 0<=t.kind/\t.kind<=4 then(Typ.mk t.kind (bs []) [] [],true)else(noT,false)).2)]):=by
 refine zf7 (by simp) fun o c hN hp=>?_
 have hw:=t.enc_eq
 unfold zd0
 by_cases hk:0<=t.kind/\t.kind<=4
 ·rw[aC hk]
  have hk:t.kind=0\/t.kind=1\/t.kind=2\/t.kind=3\/t.kind=4:=by omega
  rcases hk with hk|hk|hk|hk|hk<;>simp[hk,Typ.enc,Typ.encs,encS]
 ·rw[aB hk]
  have n0:¬t.kind=0:=by omega
  have n1:¬t.kind=1:=by omega
  have n2:¬t.kind=2:=by omega
  have n3:¬t.kind=3:=by omega
  have n4:¬t.kind=4:=by omega
  have n5:¬t.kind=5:=by omega
  have n6:¬t.kind=6:=by omega
  have n7:¬t.kind=7:=by omega
  by_cases g:5<=t.kind
  ·have g':¬t.kind<=7:=by omega
   simp[g,g',n0,n1,n2,n3,n4,n5,n6,n7,noT,Typ.enc,Typ.encs,encS]
  ·simp[g,n0,n1,n2,n3,n4,n5,n6,n7,noT,Typ.enc,Typ.encs,encS]
def zoX(t:Typ)(hl:t.kids.length<=1000)(ih:∀e,e∈t.kids->PCall Pg 143 [.agg e.enc] (.tup [.agg (zaS e).1.enc,.one (.bool (zaS e).2)])):
  PCall Pg 143 [.agg t.enc] (.tup [.agg (zaS t).1.enc,.one (.bool (zaS t).2)]):=by
 rw[zB1]
 by_cases h5:5<=t.kind/\t.kind<=7
 ·rw[aC h5]
  unfold finP
  by_cases k5:t.kind=5
  ·rw[aC k5];exact zFF t k5 hl ih
  ·by_cases k6:t.kind=6
   ·rw[aB k5,aC k6];exact zFH t k6 hl ih
   ·rw[aB k5,aB k6];exact zFG t (by omega) hl ih
 ·rw[aB h5];exact zF8 t h5
mutual
def zjU:∀t:Typ,fewT t->PCall Pg 143 [.agg t.enc] (.tup [.agg (zaS t).1.enc,.one (.bool (zaS t).2)])
 |.mk k n s l,h=>by
  rw[fewT]at h
  exact zoX (.mk k n s l) (by simp only[Typ.kids];omega) (fun e he=>ziw l h.2 e he)
def ziw:∀l:List Typ,zb7 l->∀e,e∈l->PCall Pg 143 [.agg e.enc] (.tup [.agg (zaS e).1.enc,.one (.bool (zaS e).2)])
 |[],_,e,he=>by cases he
 |t::l,h,e,he=>by
  rw[zb7]at h
  cases he with
  |head=>exact zjU t h.1
  |tail _ he=>exact ziw l h.2 e he
end
def znE(t:Typ):Typ × Int:=if 16<hgt 16 t\/200<tsz t then(noT,9)else if(zaS t).2=true then((zaS t).1,0)else(noT,9)
theorem zeJ(t:Typ):PCall Pg 95 [.agg t.enc] (.tup [.agg (znE t).1.enc,.one (.int .i64 (znE t).2)]):=by
 refine zuE (by simp) fun o c hN hp=>?_
 unfold zlK znE
 have he:noT.enc=[.int .i64 0,.str (bs []),.sl false 1 [],.sl false 4 []]:=rfl
 simp
 refine gN (zg5 t) ?_
 simp
 apply gI<;>intro h1
 ·simp at h1
  refine gN (zt6 t) ?_
  simp
  apply gI<;>intro h2
  ·simp at h2
   rw[aC (by omega)]
   simp[he]
  ·simp at h2
   rw[aB (by omega)]
   refine gN (zjU t (zrE t (by omega))) ?_
   simp
   apply gI<;>intro h3
   ·simp at h3
    simp[h3,he]
   ·simp at h3
    simp[h3]<;>(rw[Typ.enc_eq];simp[D.er])
 ·simp at h1
  rw[aC (by omega)]
  simp[he]
def isN(t:Typ):Bool:=decide ((znE t).2=0)&&zaV (znE t).1 t
def zsO(t:Typ):PCall Pg 61 [.agg t.enc] (.one (.bool (isN t))):=by
 refine zqk (by simp) fun o c hN hp=>?_
 unfold ziC isN
 simp
 refine gN (zeJ t) ?_
 simp
 apply gI<;>intro h
 ·simp at h
  refine gN (zk2 _ t) ?_
  simp[h]
 ·simp at h
  simp[h]
end Go.Gr.P
namespace Go.Gr.P
open Go.Abs Go.Proofs
def bT(k:Int):Typ:=.mk k (bs []) [] []
def zcN(k:Int):(bT k).enc=[.int .i64 k,.str (bs []),.sl false 1 [],.sl false 4 []]:=by rw[Typ.enc_eq];try rfl
@[simp] theorem Typ.er_map(t:Typ):t.enc.map D.er=t.enc:=by rw[Typ.enc_eq];try rfl
def PCall.erdV{P:Program}{f:FuncId}{args:List DV}{v v':DV}(h:PCall P f args v)(e:v.erd=v'):PCall P f args v':=by
 subst e
 refine⟨h.1,fun ph w us hp hG r=>(h.2 ph w us hp hG r).mono fun e w' q=>?_⟩
 obtain⟨vC,h',q1,q2,q3,q4,q5,q6,q7,q8⟩:=q
 exact⟨vC,h',q1,q2,q3,q4,q5,q6,q7,zaP.erd q8⟩
abbrev boxI:Blk:=.box [.msl 1 1 0 6,.d (.sl true 2 []),.d (.sl true 1 []),.d (.sl true 5 []),.d (.sl true 5 [])]
def bT0(k:Int):Typ:=.mk k (bs []) [] []
def noP:List (Option (List D)):=[none,none,none,none,none,none]
def zaL(t:Typ):List (Nat × List D):=
 if t.kind=0 then [(0,(bT0 1).enc),(1,(bT0 2).enc),(2,(bT0 3).enc),(3,(bT0 4).enc),(4,(bT0 5).enc),(5,(Typ.mk 6 (bs []) [] [bT0 0,bT0 0]).enc)]
 else(if t.kind=7 then t.kids else [t]).map fun k=>((zaj k).toNat,k.enc)
def zfS:∀l:List fC,D.erdE (encS l)=encS l
 |[]=>rfl
 |s::l=>by
  have ih:=zfS l
  simp only[encS,List.map_cons,D.erdE,D.erdL,D.erd]at ih⊢
  rw[ih]
mutual
def Typ.erdL:∀t:Typ,D.erdL t.enc=t.enc
 |.mk k n s l=>by
  simp only[Typ.enc,D.erdL,D.erd,zfS,Typ.erdE l]
def Typ.erdE:∀l:List Typ,D.erdE (Typ.encs l)=Typ.encs l
 |[]=>rfl
 |t::l=>by simp only[Typ.encs,D.erdE,Typ.erdL t,Typ.erdE l]
end
def lit(k:Int)(l:List (List D)):List D:=[.int .i64 k,.str (bs []),.sl true 1 [],.sl true 4 l]
def kidT(op:Bool)(k:Typ)(s:fC):Typ × Bool:=
 if 0<=fi (fun x=>decide (s=x)) 0 k.names then(k.kids.getD (fi (fun x=>decide (s=x)) 0 k.names).toNat (bT0 0),true)else(bT0 0,op)
def zyv{α:Type}(q:α->Bool):∀(l:List α) (j:Nat),fi q j l<(j+l.length:Nat)
 |[],j=>by simp[fi];omega
 |x::l,j=>by
  rw[fi]
  split
  ·simp;omega
  ·have:=zyv q l (j+1);simp at this⊢;omega
mutual
def wfT:Typ->Prop
 |.mk k nm s l=>nm=bs []/\wfTs l/\((0<=k/\k<=4/\s=[]/\l=[])\/(k=5/\s.length=l.length/\s.Pairwise ltB)\/(k=6/\s=[]/\l.length=2)\/(k=7/\s=[]/\2<=l.length/\(l.map zaj).Pairwise (· < ·)/\∀x,x∈l->0<=zaj x))
def wfTs:List Typ->Prop
 |[]=>True
 |t::l=>wfT t/\wfTs l
end
def zdy:∀l:List Typ,wfTs l↔∀x,x∈l->wfT x
 |[]=>by simp[wfTs]
 |t::l=>by simp[wfTs,zdy l]
def zaQ(t:Typ):wfT t↔t.name=bs []/\(∀x,x∈t.kids->wfT x)/\((0<=t.kind/\t.kind<=4/\t.names=[]/\t.kids=[])\/(t.kind=5/\t.names.length=t.kids.length/\t.names.Pairwise ltB)\/(t.kind=6/\t.names=[]/\t.kids.length=2)\/(t.kind=7/\t.names=[]/\2<=t.kids.length/\(t.kids.map zaj).Pairwise (· < ·)/\∀x,x∈t.kids->0<=zaj x)):=by
 cases t
 simp only[wfT,zdy,Typ.kind,Typ.name,Typ.names,Typ.kids]
def setT:List (Nat × Typ)->List (Option Typ)->List (Option Typ)
 |[],of=>of
 |k::l,of=>setT l (of.set k.1 (some k.2))
mutual
def dpt:Typ->Nat
 |.mk _ _ _ l=>dpts l+1
def dpts:List Typ->Nat
 |[]=>0
 |t::l=>max (dpt t) (dpts l)
end
def zev:∀{l:List Typ} {x:Typ},x∈l->dpt x<=dpts l
 |t::l,x,h=>by
  rw[dpts]
  rcases aM.1 h with rfl|h
  ·omega
  ·have:=zev h;omega
def zcH{t x:Typ}(h:x∈t.kids):dpt x<dpt t:=by
 cases t with
 |mk a b c l=>have:=zev (l:=l) h;rw[dpt];omega
def zer{k:Typ}(h:wfT k)(h7:k.kind≠7):(k.names.length=k.kids.length\/k.names=[])/\k.names.length<=k.kids.length/\(zaj k=5->k.kids.length=2):=by
 have h:=((zaQ k).1 h).2.2
 rcases h with⟨a,b,c,d⟩|⟨a,b,c⟩|⟨a,b,c⟩|⟨a,_⟩
 ·refine⟨.inr c,by rw[c];simp,fun e=>?_⟩
  unfold zaj at e;split at e<;>omega
 ·refine⟨.inl b,by omega,fun e=>?_⟩
  unfold zaj at e;split at e<;>omega
 ·exact⟨.inr b,by rw[b];simp,fun _=>c⟩
 ·exact absurd a h7
def zAk:wfT (bT0 0):=by
 rw[zaQ]
 exact⟨rfl,(fun x hx=>by cases hx),.inl ⟨by decide,by decide,rfl,rfl⟩⟩
def zd7(t:Typ):1<=dpt t:=by cases t;rw[dpt];omega
def zkH{l:List Typ}{i:Nat}(h:i<l.length):l.getD i (bT0 0)∈l:=by
 rw[aH,aA h];exact aS h
end Go.Gr.P
namespace Go.Gr.P
open Go.Abs Go.Proofs Go.Sort List
mutual
def zg4:∀(a b:Typ),zaV a b=true↔a=b
 |.mk k n s l,.mk k' n' s' l'=>by
  simp only[zaV,aD,aI,Typ.mk.injEq]
  rw[zfW l l']
def zfW:∀(a b:List Typ),zbF a b=true↔a=b
 |[],[]=>by simp[zbF]
 |[],_::_=>by simp[zbF]
 |_::_,[]=>by simp[zbF]
 |a::l,b::k=>by
  simp only[zbF,aD,dV]
  rw[zg4 a b,zfW l k]
end
def zAU(xs:List (fC × Typ)):(srtT xs).map (·.1)=(srtN (xs.map (·.1))).toList.map fun i=>(xs.map (·.1)).getD i ⟨#[]⟩:=by
 unfold srtT
 rw[bJ]
 refine bO fun i _=>?_
 simp only[Function.comp_apply,aH,getElem?_map]
 cases xs[i]?<;>rfl
def zy0(xs:List (fC × Typ)):((srtT xs).map (·.1)).Pairwise fun a b=>¬ltB b a:=by
 rw[zAU,pairwise_map]
 obtain⟨⟨h1,_⟩,h2⟩:=zqp (xs.map (·.1))
 generalize xs.map (·.1)=ns at*
 simp only[Array.size_range]at h1 h2
 rw[pairwise_iff_getElem]
 intro i j hi hj hij
 have:=h2 i j (dK _) hij (by simpa[h1]using hj)
 rw[znu]at this
 have hi':i<(srtN ns).size:=by simpa using hi
 have hj':j<(srtN ns).size:=by simpa using hj
 rw[getElem!_pos (srtN ns) i hi',getElem!_pos (srtN ns) j hj']at this
 simpa using this
def zuW:∀l:List fC,(∀i (h:i+1<l.length),ltB l[i] l[i+1])->l.Pairwise ltB
 |[],_=>by simp
 |[a],_=>by simp
 |a::b::l,h=>by
  have ih:=zuW (b::l) fun i hi=>h (i+1) (by simp only[length_cons]at hi⊢;omega)
  have hab:ltB a b:=h 0 (by simp)
  refine List.Pairwise.cons (fun c hc=>?_) ih
  rcases aM.1 hc with rfl|hc
  ·exact hab
  ·exact zdP hab (rel_of_pairwise_cons ih hc)
def zFR{l:List fC}(h:adjB l=true){i:Nat}(hi:i+1<l.length):l[i]≠l[i+1]:=by
 unfold adjB at h
 rw[aa]at h
 have:=h (i+1) (by simpa using hi)
 unfold unlk at this
 intro e
 have hi':i<l.length:=by omega
 simp[aH,aA hi,aA hi',e]at this
def zFS(s:List fC)(l:List Typ)(hl:∀x,x∈l->wfT x)(h:(recP s l).2=true):wfT (recP s l).1:=by
 unfold recP at h⊢
 split at h
 ·cases h
 ·rename_i hc
  rw[aB hc]
  split at h
  ·rename_i hd
   rw[aC hd]
   rw[zaQ]
   refine⟨rfl,fun x hx=>?_,.inr (.inl ⟨rfl,by simp[Typ.names,Typ.kids],?_⟩)⟩
   ·simp only[Typ.kids,mem_map]at hx
    obtain⟨y,hy,rfl⟩:=hx
    have:=(zsj _).mem_iff.1 hy
    exact hl _ (of_mem_zip (a:=y.1) (b:=y.2) this).2
   ·simp only[Typ.names]
    refine zuW _ fun i hi=>?_
    have h1:=zFR hd.2 hi
    have h2:=(cZ.1 (zy0 (s.zip l))) i (i+1) (by omega) hi (by omega)
    exact(zhe h1).resolve_right h2
  ·cases h
def ofW(of:List (Option Typ)):Prop:=∀(i:Nat) (k:Typ),of[i]?=some (some k)->zaj k=i/\wfT k
def zEO{of:List (Option Typ)}(h:ofW of){k:Typ}(hk:wfT k):ofW (putU of k).2:=by
 unfold putU
 split
 ·exact h
 ·rename_i h0
  split
  ·intro i m hm
   simp only at hm
   rw[getElem?_set]at hm
   split at hm
   ·rename_i e
    split at hm
    ·simp only[ah]at hm
     subst hm
     exact⟨by omega,hk⟩
    ·cases hm
   ·exact h i m hm
  ·exact h
def zsr:∀(l:List Typ) {of:List (Option Typ)},ofW of->(∀k,k∈l->wfT k)->ofW (zbm l of).2
 |[],of,h,_=>h
 |m::l,of,h,hl=>by
  rw[zbm]
  split
  ·exact zsr l (zEO h (hl m (by simp))) fun k hk=>hl k (by simp[hk])
  ·exact h
def zss:∀(of:List (Option Typ)) (n:Nat),(∀(i:Nat) (k:Typ),of[i]?=some (some k)->zaj k=(n+i:Nat))->((of.filterMap id).map zaj).Pairwise (· < ·)/\∀x,x∈of.filterMap id->(n:Int)<=zaj x
 |[],n,_=>by simp
 | o::of,n,h=>by
  have ih:=zss of (n+1) fun i k hk=>by rw[h (i+1) k (by simpa using hk)];omega
  cases o with
  |none=>
   simp only[filterMap_cons,id]
   exact⟨ih.1,fun x hx=>by have:=ih.2 x hx;omega⟩
  | some t=>
   have h0:=h 0 t (by simp)
   simp only[filterMap_cons,id]
   refine⟨List.Pairwise.cons (fun y hy=>?_) ih.1,fun x hx=>?_⟩
   ·obtain⟨x,hx,rfl⟩:=ai.1 hy
    have:=ih.2 x hx;omega
   ·rcases aM.1 hx with rfl|hx
    ·omega
    ·have:=ih.2 x hx;omega
def zC0{of:List (Option Typ)}{x:Typ}(h:x∈of.filterMap id):∃i:Nat,of[i]?=some (some x):=by
 rw[mem_filterMap]at h
 obtain⟨o,ho,e⟩:=h
 simp only[id]at e
 subst e
 exact List.mem_iff_getElem?.1 ho
def zC1(l:List Typ)(hl:∀x,x∈l->wfT x)(h:(zd2 l).2=true):wfT (zd2 l).1:=by
 have hm:∀m,m∈l.flatMap mems->wfT m:=fun m hm=>by
  obtain⟨k,hk,hmk⟩:=eO.1 hm
  have hw:=hl k hk
  unfold mems at hmk
  split at hmk
  ·exact((zaQ k).1 hw).2.1 m hmk
  ·rw[aL]at hmk;rw[hmk];exact hw
 have h0:ofW noU:=fun i k hk=>by
  exfalso
  unfold noU at hk
  match i,hk with
  |0,q|1,q|2,q|3,q|4,q|5,q=>simp at q
  |i+6,q=>simp at q
 have hw:=zsr _ h0 hm
 unfold zd2 at h⊢
 generalize zbm (l.flatMap mems) noU=p at*
 obtain⟨b,of⟩:=p
 cases b with
 |false=>cases h
 | true=>
  simp only at h hw⊢
  have ht:=zss of 0 fun i k hk=>by rw[(hw i k hk).1];omega
  have hmem:∀x,x∈of.filterMap id->wfT x:=fun x hx=>by
   obtain⟨i,hi⟩:=zC0 hx
   exact(hw i x hi).2
  generalize of.filterMap id=L at*
  rcases L with _|⟨t,_|⟨t',L⟩⟩
  ·simp at h
  ·exact hmem t (by simp)
  ·simp only
   rw[zaQ]
   exact⟨rfl,hmem,.inr (.inr (.inr ⟨rfl,rfl,by simp[Typ.kids],ht.1,fun x hx=>by have:=ht.2 x hx;omega⟩))⟩
mutual
def zxD:∀t:Typ,(zaS t).2=true->wfT (zaS t).1
 | .mk k n s l,h=>by
  rw[zaS]at h⊢
  by_cases h5:5<=k/\k<=7
  ·rw [aC h5]at h⊢
   by_cases hs:(zaY l).2=true
   ·rw[aC hs]at h⊢
    have ih:=zuX l hs
    unfold finP at h⊢
    by_cases k5:k=5
    ·rw[aC k5]at h⊢;exact zFS s _ ih h
    ·by_cases k6:k=6
     ·rw[aB k5,aC k6]at h⊢
      rw[zaQ]
      exact⟨rfl,ih,.inr (.inr (.inl ⟨rfl,rfl,by simp only[aI]at h;exact h⟩))⟩
     ·rw[aB k5,aB k6]at h⊢;exact zC1 _ ih h
   ·rw[aB hs]at h;cases h
  ·rw[aB h5]at h⊢
   by_cases h0:0<=k/\k<=4
   ·rw[aC h0]
    rw[zaQ]
    exact⟨rfl,(fun x hx=>by cases hx),.inl ⟨h0.1,h0.2,rfl,rfl⟩⟩
   ·rw[aB h0]at h;cases h
def zuX:∀l:List Typ,(zaY l).2=true->∀x,x∈(zaY l).1->wfT x
 |[],_,x,hx=>by rw[zaY]at hx;cases hx
 | t::l,h,x,hx=>by
  rw[zaY]at h hx
  by_cases ht:(zaS t).2=true
  ·rw[aC ht]at h hx
   rcases aM.1 hx with rfl|hx
   ·exact zxD t ht
   ·exact zuX l h x hx
  ·rw[aB ht]at h;cases h
end
def zuY{t:Typ}(h:isN t=true):wfT t/\fewT t:=by
 unfold isN znE at h
 split at h
 ·simp at h
 ·rename_i hs
  split at h
  ·rename_i hn
   simp only[decide_true,Bool.true_and,zg4]at h
   have:=zxD t hn
   rw[h]at this
   exact⟨this,zrE t (by omega)⟩
  ·simp at h
end Go.Gr.P
namespace Go.Gr.P
open Go.Abs Go.Proofs
def insL(l:List Int)(x:Int):List Int:=if x∈l then l else l++[x]
def addL(l r:List Int):List Int:=r.foldl insL l
end Go.Gr.P
namespace Go.Gr.P
open Go.Abs Go.Proofs
end Go.Gr.P
namespace Go.Gr.P
open Go.Abs Go.Proofs List
def anyP(i:Nat):Typ:=.mk (i+1) (bs []) [] (if i=5 then [bT0 0,bT0 0]else [])
def memO(t:Typ)(i:Nat):Option Typ:=(if t.kind=7 then t.kids else [t]).find? fun x=>decide (zaj x=i)
def zbf(t:Typ)(i:Nat):Option Typ:=if t.kind=0 then some (anyP i)else memO t i
def kd(t:Typ)(j:Nat):Typ:=t.kids.getD j (bT0 0)
def flp(p:Int):Int:=if p%2=0 then p+1 else p-1
def zcK(lo op:Bool)(m k:Typ):List fC:=if op=true then m.names else if lo=true then k.names else k.names.filter fun s=>decide (s∈m.names)
def kidO(t:Typ)(s:fC):Typ:=(kidT false t s).1
def ndsP(lb:Int)(m k:Typ):List (fC × Int):=(k.names.filter fun s=> !decide (s∈m.names)).map fun s=>(s,lb)
def recF(v:Typ->Typ->Int->Coe)(lo op:Bool)(m k:Typ)(p:Int):List (fC × Coe):=busy ((zcK lo op m k).map fun s=>(s,v (kidO m s) (kidO k s) p))
def tgP(a b:Typ)(p:Int)(i:Nat):Int:=match zbf a i,zbf b i with
 |some _,none=>p
 |_,_=>0
def ndP(a b:Typ)(p:Int):List (fC × Int):=match zbf a 4,zbf b 4 with
 |some m,some k=>ndsP p m k
 |_,_=>[]
def fdP(v:Typ->Typ->Int->Coe)(a b:Typ)(p:Int):List (fC × Coe):=match zbf a 4,zbf b 4 with
 |some m,some k=>recF v (decide (a.kind=0)) (decide (b.kind=0)) m k p
 |_,_=>[]
def fnP(v:Typ->Typ->Int->Coe)(a b:Typ)(p:Int):List Coe:=match zbf a 5,zbf b 5 with
 |some m,some k=>zbj (v (kd k 0) (kd m 0) (flp p)) (v (kd m 1) (kd k 1) p)
 |_,_=>[]
def tgsP(a b:Typ)(p:Int):List Int:=[tgP a b p 0,tgP a b p 1,tgP a b p 2,tgP a b p 3,tgP a b p 4,tgP a b p 5]
def cstV(v:Typ->Typ->Int->Coe)(a b:Typ)(p:Int):Coe:=
 if a.kind=0/\b.kind=0 then idC else .mk (tgsP a b p) (ndP a b p) ((fdP v a b p).map (·.1)) ((fdP v a b p).map (·.2)) (fnP v a b p)
def cstN:Nat->Typ->Typ->Int->Coe
 |0,_,_,_=>idC
 |n+1,a,b,p=>cstV (cstN n) a b p
def zbk(t:Typ):Prop:=wfT t/\fewT t
def zpg:zbk (bT0 0):=⟨zAk,by rw[ziv];exact⟨by simp[bT0,Typ.kids],fun x hx=>by cases hx⟩⟩
def zph{t x:Typ}(h:zbk t)(hx:x∈t.kids):zbk x:=⟨((zaQ t).1 h.1).2.1 x hx,((ziv t).1 h.2).2 x hx⟩
def zES{t:Typ}(h:zbk t){i:Nat}{k:Typ}(hk:memO t i=some k):zaj k=i/\zbk k/\k.kind≠7/\∀x,x∈k.kids->dpt x<dpt t:=by
 unfold memO at hk
 have h1:=find?_some hk
 have h2:=mem_of_find?_eq_some hk
 simp only[aI]at h1
 have h7:k.kind≠7:=fun e=>by
  unfold zaj at h1;rw[aC (by omega)]at h1;omega
 split at h2
 ·exact⟨h1,zph h h2,h7,fun x hx=>Nat.lt_trans (zcH hx) (zcH h2)⟩
 ·rw[aL]at h2
  subst h2
  exact⟨h1,h,h7,fun x hx=>zcH hx⟩
def zET{i:Nat}(hi:i<6):zaj (anyP i)=i/\zbk (anyP i)/\(anyP i).kind≠7/\∀x,x∈(anyP i).kids->x=bT0 0:=by
 have hx:∀x,x∈(anyP i).kids->x=bT0 0:=fun x hx=>by
  simp only[anyP,Typ.kids]at hx
  split at hx<;>simp at hx
  exact hx
 refine⟨?_,⟨?_,?_⟩,?_,hx⟩
 ·show(if((i:Int)+1<1\/6<(i:Int)+1)then(-1:Int)else(i:Int)+1-1)=i
  rw[aB (by omega)];omega
 ·rw[zaQ]
  refine⟨rfl,fun x h=>by rw[hx x h];exact zAk,?_⟩
  by_cases h5:i=5
  ·subst h5
   exact .inr (.inr (.inl ⟨rfl,rfl,rfl⟩))
  ·by_cases h4:i=4
   ·subst h4
    exact .inr (.inl ⟨rfl,rfl,by simp[anyP,Typ.names]⟩)
   ·refine .inl ⟨?_,?_,rfl,?_⟩
    ·simp only[anyP,Typ.kind];omega
    ·simp only[anyP,Typ.kind];omega
    ·simp[anyP,Typ.kids,h5]
 ·rw[ziv]
  refine⟨?_,fun x h=>by rw[hx x h];exact zpg.2⟩
  simp only[anyP,Typ.kids];split<;>simp
 ·simp only[anyP,Typ.kind];omega
def zeB{t:Typ}(h:zbk t){i:Nat}(hi:i<6){k:Typ}(hk:zbf t i=some k):zaj k=i/\zbk k/\k.kind≠7/\∀x,x∈k.kids->(t.kind=0/\x=bT0 0)\/(t.kind≠0/\dpt x<dpt t):=by
 unfold zbf at hk
 split at hk
 ·rename_i h0
  simp only[ah]at hk
  subst hk
  obtain⟨a1,a2,a3,a4⟩:=zET hi
  exact⟨a1,a2,a3,fun x hx=>.inl ⟨h0,a4 x hx⟩⟩
 ·rename_i h0
  obtain⟨a1,a2,a3,a4⟩:=zES h hk
  exact⟨a1,a2,a3,fun x hx=>.inr ⟨h0,a4 x hx⟩⟩
def zDa{k:Typ}(s:fC):kidO k s∈k.kids\/kidO k s=bT0 0:=by
 unfold kidO kidT
 split
 ·simp only
  by_cases q:(fi (fun x=>decide (s=x)) 0 k.names).toNat<k.kids.length
  ·rw[aH,aA q]
   exact .inl (aS q)
  ·rw[aH,aR (by omega)]
   exact .inr rfl
 ·exact .inr rfl
def zFX(k:Typ)(j:Nat):kd k j∈k.kids\/kd k j=bT0 0:=by
 unfold kd
 by_cases q:j<k.kids.length
 ·exact .inl (zkH q)
 ·rw[aH,aR (by omega)]
  exact .inr rfl
def zsz{k:Typ}(h:zbk k)(s:fC):zbk (kidO k s):=by
 rcases zDa (k:=k) s with q|q
 ·exact zph h q
 ·rw[q];exact zpg
def znA{k:Typ}(h:zbk k)(j:Nat):zbk (kd k j):=by
 rcases zFX k j with q|q
 ·exact zph h q
 ·rw[q];exact zpg
def zcR{k:Typ}(h:zbk k):k.names.Pairwise ltB/\k.names.length<=k.kids.length/\k.names.length<=200:=by
 have h2:=((ziv k).1 h.2).1
 rcases((zaQ k).1 h.1).2.2 with q|q|q|q
 ·rw[q.2.2.1];simp
 ·exact⟨q.2.2,by omega,by omega⟩
 ·rw[q.2.1];simp
 ·rw[q.2.1];simp
def zwN{lo op:Bool}{m k:Typ}:(zcK lo op m k).Sublist m.names\/(zcK lo op m k).Sublist k.names:=by
 unfold zcK
 split
 ·exact .inl (List.Sublist.refl _)
 ·split
  ·exact .inr (List.Sublist.refl _)
  ·exact .inr filter_sublist
def ztj{lo op:Bool}{m k:Typ}(hm:zbk m)(hk:zbk k):(zcK lo op m k).Pairwise ltB/\(zcK lo op m k).length<=200:=by
 rcases zwN (lo:=lo) (op:=op) (m:=m) (k:=k)with q|q
 ·exact⟨(zcR hm).1.sublist q,ak q.length_le (zcR hm).2.2⟩
 ·exact⟨(zcR hk).1.sublist q,ak q.length_le (zcR hk).2.2⟩
def zvi{α:Type}(q:α->Bool):∀(l:List α) (i:Nat) {j:Nat} (hj:j<l.length),q l[j]=true->(∀j' (h:j'<l.length),j'<j->q l[j']=false)->fi q i l=(i+j:Nat)
 |x::l,i,0,_,h,_=>by
  rw[fi,aC (by simpa using h)];try rfl
 |x::l,i,j+1,hj,h,hb=>by
  have h0:=hb 0 (by simp) (by omega)
  simp only[getElem_cons_zero]at h0
  rw[fi,aB (by simp[h0]),zvi q l (i+1) (j:=j) (by simpa using hj) (by simpa using h) fun j' h' hlt=>by have:=hb (j'+1) (by simpa using h') (by omega);simpa only[getElem_cons_succ]using this]
  omega
def zFY{l:List fC}(hn:l.Nodup){j:Nat}(hj:j<l.length):fi (fun x=>decide (l[j]=x)) 0 l=(j:Nat):=by
 have:=zvi (fun x=>decide (l[j]=x)) l 0 hj (by simp) fun j' h' hlt=>by
  simp only[bY]
  intro e
  exact(cZ.1 hn) j' j h' hj hlt e.symm
 simpa using this
def zvj{k:Typ}(hn:k.names.Nodup){j:Nat}(hj:j<k.names.length)(hj':j<k.kids.length):kidO k k.names[j]=k.kids[j]:=by
 unfold kidO kidT
 rw[zFY hn hj,aC (by omega)]
 simp[aH,hj']
def zvk{l:List fC}{s:fC}:0<=fi (fun x=>decide (s=x)) 0 l↔s∈l:=by
 rw[<-decide_eq_true_iff (p:=0<=fi (fun x=>decide (s=x)) 0 l),zvz,List.any_eq_true]
 constructor
 ·rintro⟨x,hx,e⟩
  simp only[aI]at e
  rw[e];exact hx
 ·intro h
  exact⟨s,h,by simp⟩
def zkV{k:Typ}{s:fC}(h:s∉k.names):kidO k s=bT0 0:=by
 unfold kidO kidT
 rw[aB (fun e=>h (zvk.1 e))]
def zDb{k:Typ}(h:k.names=[])(s:fC):kidO k s=bT0 0:=zkV (by rw[h];simp)
end Go.Gr.P
namespace Go.Gr.P
open Go.Abs Go.Proofs
def zxm{k:Typ}(g:zbk k){s:fC}(h:s∈k.names):kidO k s∈k.kids:=by
 have h0:=zvk.2 h
 have h1:=zyv (fun x=>decide (s=x)) k.names 0
 have h2:=(zcR g).2.1
 unfold kidO kidT
 rw[aC h0]
 simp only
 exact zkH (by omega)
end Go.Gr.P
namespace Go.Gr.P
open Go.Abs Go.Proofs List
abbrev zc5(T:List Int):Blk:=.arr 1 ((encI T).map (·.map .d))
def zyy(b f:D)(T:List Int)(hT:T.length=6)(l:List (fC × Coe))(hn:(l.map (·.1)).Nodup)(hl:l.length<=1073741824):
  MCall Pg 105 [.c (.ptr 0 0),.c (.map 1)] [.box [.msl 1 2 0 6,.d b,.d (.sl true 1 []),.d (.sl true 5 []),.d f],.map (mapC l),zc5 T] (.tup [])
   [.box [.msl 1 2 0 6,.d b,.msl 1 3 0 (outC l (zbs (l.map (·.1)))).length,.msl 5 4 0 (outC l (zbs (l.map (·.1)))).length,.d f],.map (mapC l),zc5 T,
    .arr 1 ((encS ((outC l (zbs (l.map (·.1)))).map (·.1))).map (·.map .d)),.arr 5 (((outC l (zbs (l.map (·.1)))).map (·.2.enc)).map (·.map .d))]:=by
 refine ziE ⟨by simp,by simp,by simp,by simp,by simp,by simp,by simp[live];exact zkw⟩ fun ts hts ok hb c hN hp=>?_
 obtain⟨t0,t1,t2,rfl⟩:∃t u v,ts=[t,u,v]:=by
  match ts,hts with
  |[t,u,v],_=>exact⟨t,u,v,rfl⟩
 unfold zft
 simp
 refine fQ [.c 0 2,.c 0 3] ?_
 simp
 refine gM [1] (ztx l) (by simp;exact fun a b h=>zbp h) ?_
 simp
 refine gM [1,8] (zpB l hn hl) (by simp;exact fun a b h=>zbp h) ?_
 simp
 have hks:(zbs (l.map (·.1))).length<=1073741824:=by simpa[zbs]using hl
 have hmem:∀k,k∈zbs (l.map (·.1))->k∈l.map (·.1):=fun k hk=>zjm.1 hk
 generalize zbs (l.map (·.1))=ks at*
 refine fM zaa hp zb1 [11] (fun j:Nat=>j<=ks.length) (fun j=>[.c (.d (.int .i64 j))])
  (fun j=>[.box [.msl 1 2 0 6,.d b,.msl 1 3 0 (outC l (ks.take j)).length,.msl 5 4 0 (outC l (ks.take j)).length,.d f],.map (mapC l),zc5 T,.arr 1 ((encS ((outC l (ks.take j)).map (·.1))).map (·.map .d)),.arr 5 (((outC l (ks.take j)).map (·.2.enc)).map (·.map .d)),.pin t0 0,.pin t1 1,.pin t2 2])
  (fun j=>ks.length-j) 0 [0,1,2,6,7,3,4,5] (by simp) (by simp[zb1,outC,encS];exact fun a b h=>zbp h) fun j h1=>?_
 unfold zey zb1
 simp
 apply gI<;>intro h
 ·have hj:j<ks.length:=by simpa using h
  simp[aA hj]
  obtain⟨i,hi⟩:=zg2 (l:=l) 0 (hmem _ (aS hj))
  simp[hi]
  refine gN (zdd _) ?_
  have hs:=zsy (l:=l) hj
  have hlen:=zvh l (ks.take j)
  rw[bI]at hlen
  generalize atC l ks[j]=d at hs⊢
  simp
  apply gI<;>intro h
  ·simp at h
   rw[h]at hs
   simp at hs
   refine⟨by omega,by omega,by decide,?_⟩
   refine fD (j+1) [0,1,2,9,10,5,6,7] (by omega) (by omega) ?_
   simp[hs]
   refine⟨wI,fun a b h=>zbp h,?_,?_⟩
   ·rw[aF (by simp)]<;>simp[encS]
   ·rw[aF (by simp)]
  ·simp at h
   rw[h]at hs
   simp at hs
   refine fD (j+1) [0,1,2,3,4,5,6,7] (by omega) (by omega) ?_
   simp[hs]
   exact⟨wI,fun a b h=>zbp h⟩
 ·have hj:j=ks.length:=by simp at h;omega
  subst hj
  simp
  exact fI [0,1,2,3,4] [5,6,7]
def zEx(b s x:D)(T:List Int)(hT:T.length=6)(f g:Coe):MCall Pg 99 [.c (.ptr 0 0),.ag (f.enc.map .d),.ag (g.enc.map .d)] [.box [.msl 1 1 0 6,.d b,.d s,.d x,.d (.sl true 5 [])],zc5 T] (.tup []) [.box [.msl 1 1 0 6,.d b,.d s,.d x,.d (.sl true 5 ((zbj f g).map Coe.enc))],zc5 T]:=by
 refine zlJ MS1 fun ts hts ok hb c hN hp=>?_
 obtain⟨t,u,rfl⟩:=zqy hts
 unfold zhv
 simp
 refine gN (zdd f) ?_
 simp
 apply gI<;>intro h2
 ·simp at h2
  refine gN (zdd g) ?_
  simp
  apply gI<;>intro h3
  ·simp at h3
   exact fJ [0,1] [2,3] (by simp[zbj,h2,h3])
  ·simp at h3
   exact fJ [0,1] [2,3] (by simp[zbj,h2,h3])
 ·simp at h2
  exact fJ [0,1] [2,3] (by simp[zbj,h2])
def zbh(v:fC->Coe)(ks:List fC):List (fC × Coe):=ks.map fun s=>(s,v s)
def zjc(v:fC->Coe)(ks:List fC):(zbh v ks).map (·.1)=ks:=by simp[zbh,Function.comp_def]
def zoR(v:fC->Coe)(a b:List fC):zbh v (a++b)=zbh v a++zbh v b:=by simp[zbh]
def zxo{v:fC->Coe}:∀{ks:List fC} {s:fC},s∈ks->atC (zbh v ks) s=v s
 | x::ks,s,h=>by
  simp only[zbh,map_cons,atC]
  split
  ·rename_i e;rw[e]
  ·rename_i e
   exact zxo (v:=v) ((aM.1 h).resolve_left e)
def zCv{v:fC->Coe}{ks:List fC}(h:ks.Pairwise ltB):outC (zbh v ks) (zbs ((zbh v ks).map (·.1)))=busy (zbh v ks):=by
 rw[zjc]
 have e:zbs ks=ks:=zsC (zoo (zbc h)) h fun x=>zjm
 rw[e]
 unfold outC busy
 congr 1
 exact bO fun s hs=>by rw[zxo hs]
def zoS(a b:List (fC × Coe)):mapC (a++b)=mapC a++mapC b:=by simp[mapC]
def zCw{t:Typ}{lb:Int}{d:Coe}(h:PCall Pg 62 [.agg t.enc,.agg (bT0 0).enc,.one (.int .i64 lb)] (.agg d.enc)):PCall Pg 62 [.agg t.enc,.agg [.int .i64 0,.str (bs []),.sl true 1 [],.sl true 4 []],.one (.int .i64 lb)] (.agg d.enc):=
 PCall.erd h (by simp[DV.erds,DV.erd,Typ.erdL,D.erdL,D.erd,D.erdE,bT0,Typ.enc,Typ.encs,encS])
def zCx{t:Typ}{lb:Int}{d:Coe}(h:PCall Pg 62 [.agg (bT0 0).enc,.agg t.enc,.one (.int .i64 lb)] (.agg d.enc)):PCall Pg 62 [.agg [.int .i64 0,.str (bs []),.sl true 1 [],.sl true 4 []],.agg t.enc,.one (.int .i64 lb)] (.agg d.enc):=
 PCall.erd h (by simp[DV.erds,DV.erd,Typ.erdL,D.erdL,D.erd,D.erdE,bT0,Typ.enc,Typ.encs,encS])
abbrev cbT(m k:Typ)(lo:Bool)(p:Int):List (Nat × AV):=[(0,.c (.ptr 0 0)),(3,.c (.d (.bool lo))),(5,.c (.d (.int .i64 p))),(7,.c (.d (.rp m.enc 0))),(8,.c (.d (.rp k.enc 0))),(12,.c (.map 4))]
abbrev cbB(nd:AC):Blk:=.box [.msl 1 1 0 6,nd,.d (.sl true 1 []),.d (.sl true 5 []),.d (.sl true 5 [])]
def rec0{c:Ctx}(hp:c.pure)(V:fC->Coe)(m k:Typ)(hm:zbk m)(lo:Bool)(lb:Int)(T:List Int)(hT:T.length=6)(t0 t1:Nat × Nat)
  (H:∀s,s∈m.names->PCall Pg 62 [.agg (kidO m s).enc,.agg (bT0 0).enc,.one (.int .i64 lb)] (.agg (V s).enc)) {Q:Exit->St->Prop} {S:St} {g} {ms:List Nat}
  (h0:Match ms S ((23,.c (.d (.int .i64 0)))::(21,.c (.d (.sl false 1 (encS m.names))))::(22,.c (.d (.int .i64 m.names.length)))::cbT m k lo lb) [cbB (.d (.sl true 2 [])),zc5 T,.pin t0 0,.pin t1 1,.map (mapC [])])
  (hQ:∀T',Abs.look T' 0=.c (.ptr 0 0)->Abs.look T' 3=.c (.d (.bool lo))->Abs.look T' 5=.c (.d (.int .i64 lb))->Abs.look T' 7=.c (.d (.rp m.enc 0))->Abs.look T' 8=.c (.d (.rp k.enc 0))->Abs.look T' 12=.c (.map 4)->
   Q (.exit 0) ⟨T',hpOf [cbB (.d (.sl true 2 [])),zc5 T,.pin t0 0,.pin t1 1,.map (mapC (zbh V m.names))],5⟩):lw_ Pg c zew Q g S:=by
 have hnm:=zcR hm
 have hnd:=zbc hnm.1
 refine fK zaa hp (fun j:Nat=>j<=m.names.length) (fun j=>(23,.c (.d (.int .i64 j)))::(21,.c (.d (.sl false 1 (encS m.names))))::(22,.c (.d (.int .i64 m.names.length)))::cbT m k lo lb)
  (fun j=>[cbB (.d (.sl true 2 [])),zc5 T,.pin t0 0,.pin t1 1,.map (mapC (zbh V (m.names.take j)))])
  (fun j=>m.names.length-j) 0 ms (by simp) (by simpa[zbh]using h0) fun j h1=>?_
 unfold zew
 simp
 apply gI<;>intro h
 ·have hj:j<m.names.length:=by simpa using h
  have hj':j<m.kids.length:=by omega
  have hc:=H _ (aS hj)
  rw[zvj hnd hj hj']at hc
  simp[aA hj,aA hj']
  refine gN (zCw hc) ?_
  have hk:m.names[j]∉(zbh V (m.names.take j)).map (·.1):=by rw[zjc];exact zgu hnd hj
  simp[zeR 0 hk]
  refine fD (j+1) [0,1,2,3,4] (by omega) (by omega) ?_
  simp
  refine⟨wI,?_,fun a b h=>zbp h⟩
  rw[aJ hj,zoR,zoS]
  simp[zbh,mapC]
 ·have hj:j=m.names.length:=by simp at h;omega
  subst hj
  rw[bS]
  exact hQ _ (by simp) (by simp) (by simp) (by simp) (by simp) (by simp)
def inK(lo:Bool)(m:Typ)(ks:List fC):List fC:=ks.filter fun s=>lo||decide (s∈m.names)
def outK(m:Typ)(ks:List fC):List fC:=ks.filter fun s=> !decide (s∈m.names)
def rec2{c:Ctx}(hp:c.pure)(V:fC->Coe)(m k:Typ)(hm:zbk m)(hk:zbk k)(lo:Bool)(hlo:lo=true->m.names=[])(lb:Int)(T:List Int)(hT:T.length=6)(t0 t1:Nat × Nat)(l0:List (fC × Coe))(hl0:k.names≠[]->l0=[])
  (H:∀s,s∈inK lo m k.names->PCall Pg 62 [.agg (kidO m s).enc,.agg (kidO k s).enc,.one (.int .i64 lb)] (.agg (V s).enc)) {Q:Exit->St->Prop} {S:St} {g} {ms:List Nat}
  (h0:Match ms S ((42,.c (.d (.int .i64 0)))::(40,.c (.d (.sl false 1 (encS k.names))))::(41,.c (.d (.int .i64 k.names.length)))::cbT m k lo lb) [cbB (.msl 2 5 0 0),zc5 T,.pin t0 0,.pin t1 1,.map (mapC l0),.arr 2 []])
  (hQ:∀T',Abs.look T' 0=.c (.ptr 0 0)->Abs.look T' 12=.c (.map 4)->
   Q (.exit 2) ⟨T',hpOf [cbB (.msl 2 5 0 (outK m k.names).length),zc5 T,.pin t0 0,.pin t1 1,.map (mapC (l0++zbh V (inK lo m k.names))),.arr 2 ((encN ((outK m k.names).map fun s=>(s,lb))).map (·.map .d))],6⟩):lw_ Pg c zex Q g S:=by
 have hnm:=zcR hm
 have hnk:=zcR hk
 have hnd:=zbc hnk.1
 refine fK zaa hp (fun j:Nat=>j<=k.names.length) (fun j=>(42,.c (.d (.int .i64 j)))::(40,.c (.d (.sl false 1 (encS k.names))))::(41,.c (.d (.int .i64 k.names.length)))::cbT m k lo lb)
  (fun j=>[cbB (.msl 2 5 0 (outK m (k.names.take j)).length),zc5 T,.pin t0 0,.pin t1 1,.map (mapC (l0++zbh V (inK lo m (k.names.take j)))),.arr 2 ((encN ((outK m (k.names.take j)).map fun s=>(s,lb))).map (·.map .d))])
  (fun j=>k.names.length-j) 0 ms (by simp) (by simpa[zbh,inK,outK,encN]using h0) fun j h1=>?_
 unfold zex
 simp
 apply gI<;>intro h
 ·have hj:j<k.names.length:=by simpa using h
  have hj':j<k.kids.length:=by omega
  have e0:l0=[]:=hl0 fun e=>by rw[e]at hj;simp at hj
  subst e0
  have hc:=H k.names[j]
  rw[zvj hnd hj hj']at hc
  have hidx:=zsi m.names k.names[j]
  have hmem:=zvk (l:=m.names) (s:=k.names[j])
  have hlt:=zyv (fun x=>decide (k.names[j]=x)) m.names 0
  have hkid:∀(n:Nat),fi (fun x=>decide (k.names[j]=x)) 0 m.names=n->n<m.kids.length->kidO m k.names[j]=m.kids.getD n (bT0 0):=fun n e hn=>by
   unfold kidO kidT;rw[e,aC (by omega)];try rfl
  have hnk:k.names[j]∉(zbh V (inK lo m (k.names.take j))).map (·.1):=by
   rw[zjc];exact fun h=>zgu hnd hj (bC.1 h).1
  have htk:k.names.take (j+1)=k.names.take j++[k.names[j]]:=aJ hj
  have hin:k.names[j]∈inK lo m k.names↔lo=true\/k.names[j]∈m.names:=by
   unfold inK;rw[bC];simp[aS hj]
  have hol:(outK m (k.names.take j)).length<=200:=by
   unfold outK
   have:=bV (fun s=> !decide (s∈m.names)) (k.names.take j)
   simp only[bI]at this;omega
  simp[aA hj,aA hj']
  refine gN hidx ?_
  generalize hz:fi (fun x=>decide (k.names[j]=x)) 0 m.names=z at*
  by_cases hs:k.names[j]∈m.names
  ·have hz0:=hmem.2 hs
   obtain⟨n,rfl⟩:∃n:Nat,z=n:=⟨z.toNat,by omega⟩
   have hn:n<m.kids.length:=by omega
   have hc:=hc (hin.2 (.inr hs))
   rw[hkid n rfl hn,aH,aA hn]at hc
   simp only[Option.getD_some]at hc
   have ho:outK m (k.names.take (j+1))=outK m (k.names.take j):=by unfold outK;rw[htk,dF];simp[hs]
   have hi:inK lo m (k.names.take (j+1))=inK lo m (k.names.take j)++[k.names[j]]:=by unfold inK;rw[htk,dF];simp[hs]
   have hneg:¬((n:Int)<0):=by omega
   simp[hneg,aA hn,aA hj']
   refine gN hc ?_
   simp[zeR 0 hnk]
   refine⟨by decide,?_⟩
   refine fD (j+1) [0,1,2,3,4,5] (by omega) (by omega) ?_
   rw[ho,hi,zoR,zoS]
   simp
   exact⟨wI,by simp[zbh,mapC],fun a b h=>zbp h,fun a b h=>zbp h⟩
  ·have hz0:¬0<=z:=fun e=>hs (hmem.1 e)
   have hneg:z<0:=by omega
   have hge:¬z≥0:=hz0
   have ho:outK m (k.names.take (j+1))=outK m (k.names.take j)++[k.names[j]]:=by unfold outK;rw[htk,dF];simp[hs]
   cases lo with
   |true=>
    have hc:=hc (hin.2 (.inl rfl))
    rw[zkV hs]at hc
    have hi:inK true m (k.names.take (j+1))=inK true m (k.names.take j)++[k.names[j]]:=by unfold inK;rw[htk,dF];simp
    simp[hneg,hge,aA hj']
    refine⟨by omega,?_⟩
    refine gN (zCx hc) ?_
    simp[zeR 0 hnk]
    refine fD (j+1) [0,1,2,3,4,6] (by omega) (by omega) ?_
    rw[ho,hi,zoR,zoS]
    simp
    refine⟨wI,⟨by simp[zbh,mapC],fun a b h=>zbp h,fun a b h=>zbp h⟩,?_⟩
    rw[aF (by simp[encN])]
    simp[encN]
   |false=>
    have hi:inK false m (k.names.take (j+1))=inK false m (k.names.take j):=by unfold inK;rw[htk,dF];simp[hs]
    simp[hneg,hge]
    refine⟨by omega,?_⟩
    refine fD (j+1) [0,1,2,3,4,6] (by omega) (by omega) ?_
    rw[ho,hi]
    simp
    refine⟨wI,fun a b h=>zbp h,?_⟩
    rw[aF (by simp[encN])]
    simp[encN]
 ·have hj:j=k.names.length:=by simp at h;omega
  subst hj
  rw[bS]
  exact hQ _ (by simp) (by simp)
theorem zAo(v:Typ->Typ->Int->Coe)(lo op:Bool)(m k:Typ)(p:Int):recF v lo op m k p=busy (zbh (fun s=>v (kidO m s) (kidO k s) p) (zcK lo op m k)):=rfl
def zt9{c:Ctx}(V:fC->Coe)(m k:Typ)(ks:List fC)(hks:ks.Pairwise ltB)(hkl:ks.length<=200)(nd:List (fC × Int))(hnd:nd.length<=200)(T:List Int)(hT:T.length=6)(t0 t1:Nat × Nat)(T':List (Nat × AV))(e0:Abs.look T' 0=.c (.ptr 0 0))(e12:Abs.look T' 12=.c (.map 4)):
  w_ Pg c (.fzq (.reg [⟨none,some 95,.mv (.t 0)⟩,⟨none,some 96,.mv (.t 12)⟩,⟨none,some 97,.callM 105 [(.t 95),(.t 96)]⟩]))
   (endM [] (.tup []) [.box [.msl 1 1 0 6,.d (.sl false 2 (encN nd)),.msl 1 2 0 (busy (zbh V ks)).length,.msl 5 3 0 (busy (zbh V ks)).length,.d (.sl true 5 [])],zc5 T,.arr 1 ((encS ((busy (zbh V ks)).map (·.1))).map (·.map .d)),.arr 5 (((busy (zbh V ks)).map (·.2.enc)).map (·.map .d))] [t0,t1]) ⟨⟩
   ⟨T',hpOf [cbB (.msl 2 5 0 nd.length),zc5 T,.pin t0 0,.pin t1 1,.map (mapC (zbh V ks)),.arr 2 ((encN nd).map (·.map .d))],6⟩:=by
 have hf:=zyy (.sl false 2 (encN nd)) (.sl true 5 []) T hT (zbh V ks) (by rw[zjc];exact zbc hks) (by simp[zbh];omega)
 rw[zCv hks]at hf
 have htl:(encN nd).take nd.length=encN nd:=aF (by simp[encN])
 simp
 refine fP [5] ?_
 simp[zah,e0,e12,htl]
 refine gM [0,4,1] hf (by simp;exact⟨fun a b h=>zbp h,htl⟩) ?_
 simp
 exact fI [0,1,6,7] [2,3]
theorem zEy(v:Typ->Typ->Int->Coe)(m k:Typ)(hm:zbk m)(hk:zbk k)(lo op:Bool)(hop:op=true->k.names=[])(hlo:lo=true->m.names=[])(lb:Int)(T:List Int)(hT:T.length=6)
  (H:∀s,s∈zcK lo op m k->PCall Pg 62 [.agg (kidO m s).enc,.agg (kidO k s).enc,.one (.int .i64 lb)] (.agg (v (kidO m s) (kidO k s) lb).enc)):
  MCall Pg 100 [.c (.ptr 0 0),.ag (m.enc.map .d),.ag (k.enc.map .d),.c (.d (.bool lo)),.c (.d (.bool op)),.c (.d (.int .i64 lb))] [.box [.msl 1 1 0 6,.d (.sl true 2 []),.d (.sl true 1 []),.d (.sl true 5 []),.d (.sl true 5 [])],zc5 T] (.tup [])
   [.box [.msl 1 1 0 6,.d (.sl false 2 (encN (ndsP lb m k))),.msl 1 2 0 (recF v lo op m k lb).length,.msl 5 3 0 (recF v lo op m k lb).length,.d (.sl true 5 [])],zc5 T,.arr 1 ((encS ((recF v lo op m k lb).map (·.1))).map (·.map .d)),.arr 5 (((recF v lo op m k lb).map (·.2.enc)).map (·.map .d))]:=by
 refine zo2 MS1 fun ts hts ok hb c hN hp=>?_
 obtain⟨t0,t1,rfl⟩:=zqy hts
 have hr:=ztj (lo:=lo) (op:=op) hm hk
 have hnk:=zcR hk
 have hns:ndsP lb m k=(outK m k.names).map fun s=>(s,lb):=rfl
 have hol:(outK m k.names).length<=200:=by
  unfold outK
  have:=bV (fun s=> !decide (s∈m.names)) k.names
  omega
 rw[hns,zAo]
 unfold ziD
 simp
 cases op with
 |true=>
  have hk0:=hop rfl
  have hkid:∀s,kidO k s=bT0 0:=fun s=>zDb hk0 s
  have hkeys:zcK lo true m k=m.names:=rfl
  have hin:inK lo m k.names=[]:=by rw[hk0];try rfl
  have hou:outK m k.names=[]:=by rw[hk0];try rfl
  rw[hkeys]at H hr⊢
  simp
  refine rec0 hp (fun s=>v (kidO m s) (kidO k s) lb) m k hm lo lb T hT t0 t1 (fun s hs=>by have:=H s hs;rw[hkid s]at this;rw[hkid s];exact this) (ms:=[0,1,2,3,4]) (by simp[mapC]) fun T' e0 e3 e5 e7 e8 e12=>?_
  simp[e0,e3,e5,e7,e8,e12]
  refine fQ [.c 0 1] ?_
  simp[e0,e3,e5,e7,e8,e12]
  refine rec2 hp (fun s=>v (kidO m s) (kidO k s) lb) m k hm hk lo hlo lb T hT t0 t1 (zbh (fun s=>v (kidO m s) (kidO k s) lb) m.names) (fun e=>absurd hk0 e) (fun s hs=>by rw[hin]at hs;cases hs) (ms:=[0,1,2,3,4,5]) (by simp[e0,e3,e5,e7,e8,e12];exact fun a b h=>zbp h) fun T2 f0 f12=>?_
  rw[hin]
  have e:zbh (fun s=>v (kidO m s) (kidO k s) lb) m.names++zbh (fun s=>v (kidO m s) (kidO k s) lb) []=zbh (fun s=>v (kidO m s) (kidO k s) lb) m.names:=by simp[zbh]
  rw[e]
  have:=zt9 (c:=c) (fun s=>v (kidO m s) (kidO k s) lb) m k m.names hr.1 hr.2 ((outK m k.names).map fun s=>(s,lb)) (by simpa using hol) T hT t0 t1 T2 f0 f12
  simpa using this
 | false=>
  have hin:inK lo m k.names=zcK lo false m k:=by
   unfold inK zcK
   cases lo<;>simp
  simp
  refine fQ [.c 0 1] ?_
  simp
  refine rec2 hp (fun s=>v (kidO m s) (kidO k s) lb) m k hm hk lo hlo lb T hT t0 t1 [] (fun _=>rfl) (fun s hs=>by rw[hin]at hs;exact H s hs) (ms:=[0,1,2,3,4,5]) (by simp[mapC]) fun T2 f0 f12=>?_
  rw[hin,nil_append]
  have:=zt9 (c:=c) (fun s=>v (kidO m s) (kidO k s) lb) m k _ hr.1 hr.2 ((outK m k.names).map fun s=>(s,lb)) (by simpa using hol) T hT t0 t1 T2 f0 f12
  simpa using this
end Go.Gr.P
