/- Texts of ours, joined and written short by a program of ours. -/
import Derived.Test.YtlfjlokfciejnaaGreatDoorLayF
import Derived.Test.YtlfjlokfciejnaaGreatDoorSrt
import Derived.Test.YtlfjlokfciejnaaGreatDoorJ19
import Derived.Test.YtlfjlokfciejnaaGreatDoorJ17
set_option maxRecDepth 20000
set_option maxHeartbeats 4000000
set_option linter.all false
namespace Go.Abs
open Go.RowKit
def PCall.row{P:Program}{f:FuncId}{args:List DV}{ds:List D}(hc:callee P f=true)(hl:ds.length<=zaf)
  (H:∀(h:PH) (w:World) (argsC:List Value),(∀B o,h B=some o->w.heap[B]?=some o)->Gnd P h->zax h args argsC->
   Calls P f argsC.toArray w fun e w'=>∃(v:Value) (xs:List Value) (t:TypeId),e=.returned v/\(∀h,RepL h ds xs)/\w'.ownsRow w.heap.size t 1 v ds.length xs/\Below w.heap.size w w'):
  PCall P f args (.one (.sl false 1 (ds.map fun d=>[d]))):=by
 refine⟨hc,fun h w argsC K G r=>?_⟩
 refine(H h w argsC K G r).mono fun e w' q=>?_
 obtain⟨v,xs,t,e1,e2,e3,e4⟩:=q
 have lt:∀B o,h B=some o->B<w.heap.size:=fun B o e=>by
  rcases aW B w.heap.size with q|q
  ·exact q
  ·have:=K B o e;rw[aj q]at this;cases this
 obtain⟨h',q1,q2,q3,q4⟩:=zw7 e3 rfl hl e2 (h:=h) fun B o e=>⟨lt B o e,by rw[e4.block B (lt B o e)];exact K B o e⟩
 exact⟨v,h',e1,q1,q2,q3,e4.size,fun B hB=>e4.block B hB,⟨e4.os,e4.tape,e4.output⟩,by simpa only[zaP]using q4⟩
end Go.Abs
namespace Go.Gr.P
open Go.Abs Go.Proofs Go.RowKit
def zcO:fC:=bs [97,110,100,32,97,110,121,32,97,115,32,98,111,111,108,32,101,108,115,101,32,101,120,112,111,114,116,32,102,97,108,115,101,32,102,110,32,102,117,110,99,116,105,111,110,32,105,102,32,105,109,112,111,114,116,32,105,110,32,105,110,116,32,105,115,32,108,101,116,32,110,111,116,32,110,117,108,108,32,111,114,32,112,114,105,110,116,32,114,101,97,100,32,114,101,99,111,114,100,32,115,116,114,32,116,104,101,110,32,116,114,117,101,32,119,105,116,104]
def zeC:List fC:=(Lib.fields zcO.data.toList).map fun l=>⟨l.toArray⟩
def zwR:zcO.size<=1000:=by decide
def zvq:∀(j:Nat) b,zcO.data.toList[j]?=some b->b.toNat<128:=fun j b h=>by
 have hm:=af h
 have hall:(zcO.data.toList.all fun b=>decide (b.toNat<128))=true:=by decide
 simpa using aa.1 hall b hm
def zF4:∀c,c<256->spN c=if Lib.isSp (UInt8.ofNat c)then 1 else 0:=by decide
theorem zA7:PCall Pg 213 [.one (.str zcO)] (.one (.sl false 1 (encS zeC))):=by
 have e:encS zeC=(zeC.map D.str).map fun d=>[d]:=by simp[encS]
 rw[e]
 have hlen:zeC.length<=1000:=by decide+kernel
 refine PCall.row (by decide+kernel) (by simp[zaf];omega) fun h w argsC K G r=>?_
 match argsC,r with
 | [v],r=>
  simp only[zax,zaP,RepD,and_true]at r
  obtain⟨rfl,_⟩:=r
  have hg : Tryz.prog.globalNamed "strings.asciiSpace" = some (Tryz.fields213_ren.g 0) := by kernel_rfl
  obtain⟨o,g1,g2⟩:=G _ hg
  refine(Any.strings_Fields_core Tryz.fields213 (by kernel_rfl) zcO w (by have:=zwR;omega) zvq fun c hc=>?_).mono fun e w' q=>?_
  ·rw[g2 w (K _ _ g1) c hc,zF4 c hc]
  ·obtain⟨rfl,rfl⟩:=q
   have hk:(zeC.map D.str).length=(Lib.fields zcO.data.toList).length:=by simp[zeC]
   have hk2:zeC.length=(Lib.fields zcO.data.toList).length:=by simp[zeC]
   have hb:(1000:Nat)<=maxLen:=by decide
   have hsz:(Lib.fields zcO.data.toList).length<=maxLen:=by omega
   have hmap:((Lib.fields zcO.data.toList).map fun l=>Value.string ⟨l.toArray⟩)=(Lib.fields zcO.data.toList).map encStr:=rfl
   have hlens:∀x,x∈Lib.fields zcO.data.toList->x.length<=zaf:=fun x hx=>by
    have hw:((Lib.fields zcO.data.toList).all fun x=>decide (x.length<=1000))=true:=by decide+kernel
    have:=aa.1 hw x hx
    simp at this;unfold zaf;omega
   refine⟨_,(Lib.fields zcO.data.toList).map encStr,Tryz.fields213_ren.t 9,rfl,fun h=>zoC hlens,?_,(Below.refl _ _).alloc (aN _) _⟩
   rw[hk]
   refine⟨by simp,.inr ⟨w.heap.size,(Lib.fields zcO.data.toList).length,_,rfl,aN _,Array.getElem?_push_size,aN _,hsz,by simp,?_⟩⟩
   rw[hmap]
   exact aF (by simp)
end Go.Gr.P
namespace Go.Gr.P
open Go.Abs Go.Proofs List
def zjY(c:Int):Bool:=decide (97<=c/\c<=122\/65<=c/\c<=90\/c=95)
def ziA(c:Int):Bool:=zjY c||decide (48<=c/\c<=57)
def zfI(c:Int):PCall Pg 193 [.one (.int .u8 c)] (.one (.bool (zjY c))):=by
 refine zuH (by simp) fun o c' hN hp=>?_
 unfold zlN zjY
 by_cases h1:97<=c<;>by_cases h2:c<=122<;>by_cases h3:65<=c<;>by_cases h4:c<=90<;>simp[h1,h2,h3,h4]<;>(try (intros;omega))<;>(try omega)
def zgC(c:Int):PCall Pg 212 [.one (.int .u8 c)] (.one (.bool (decide (48<=c/\c<=57)))):=by
 refine zwG (by simp) fun o c' hN hp=>?_
 unfold zmN
 by_cases h1:48<=c<;>by_cases h2:c<=57<;>simp[h1,h2]<;>(try omega)
def zCG(c:Int):PCall Pg 195 [.one (.int .u8 c)] (.one (.bool (ziA c))):=by
 refine zwF (by simp) fun o c' hN hp=>?_
 unfold zmM ziA
 simp
 refine gN (zfI c) ?_
 simp
 apply gI<;>intro h
 ·refine gN (zgC c) ?_
  rw[h]
  simp
 ·rw[h]
  simp
def rowB(q:Int->Bool):List UInt8->Nat
 |[]=>0
 |b::l=>if q b.toNat=true then rowB q l+1 else 0
def zFK(s:fC):PCall Pg 194 [.one (.str s),.one (.fn (.func 195) [])] (.one (.int .i64 (rowB ziA s.data.toList))):=by
 refine zAG (by simp) fun o c' hN hp=>?_
 have hs:s.size<=zaf:=by have:=o.1;simpa only[DV.ok,D.ok]using this
 unfold zaf at hs
 have hlen:s.data.toList.length=s.size:=by rw[bu];try rfl
 unfold zql
 simp
 refine fK zaa hp (fun j:Nat=>j<=s.size/\j+rowB ziA (s.data.toList.drop j)=rowB ziA s.data.toList) (fun j=>[(8,.c (.d (.int .i64 j))),(7,.c (.d (.int .i64 s.size))),(0,.c (.d (.str s))),(1,.c (.d (.fn (.func 195) [])))]) (fun _=>[]) (fun j=>s.size-j) 0 [] ⟨by simp,by simp⟩ (by simp) fun j ⟨h1,h2⟩=>?_
 unfold zmL
 simp
 apply gI<;>intro h
 ·have hj:j<s.size:=by simpa using h
  have hj':j<s.data.toList.length:=by omega
  rw[aG hj',rowB]at h2
  have hb:s.data.toList[j]?=some s.data.toList[j]:=aA hj'
  generalize s.data.toList[j]=b at h2 hb
  have hb':s.data[j]?=some b:=by simpa using hb
  simp[hb']
  refine gN (zCG b.toNat) ?_
  simp
  apply gI<;>intro h
  ·simp at h
   rw[aB (by simp[h])]at h2
   simp[<-h2]
  ·simp at h
   rw[aC h]at h2
   refine fD (j+1) [] ⟨by omega,by omega⟩ (by omega) ?_
   simp
   exact wI
 ·have hj:j=s.size:=by simp at h;omega
  subst hj
  rw[bG (by omega),rowB]at h2
  simp[<-h2]
def zsi(l:List fC)(s:fC):PCall Pg 146 [.one (.sl false 1 (encS l)),.one (.str s)] (.one (.int .i64 (fi (fun x=>decide (s=x)) 0 l))):=by
 refine zgF (by simp) fun o c' hN hp=>?_
 have hl:l.length<=zaf:=by
  have:=o.1;simp only[DV.ok,D.ok,ze9]at this;exact this.1
 unfold zaf at hl
 unfold zdB
 simp
 refine fK zaa hp (fun j:Nat=>j<=l.length/\fi (fun x=>decide (s=x)) j (l.drop j)=fi (fun x=>decide (s=x)) 0 l) (fun j=>[(8,.c (.d (.int .i64 j))),(7,.c (.d (.int .i64 l.length))),(0,.c (.d (.sl false 1 (encS l)))),(1,.c (.d (.str s)))]) (fun _=>[]) (fun j=>l.length-j) 0 [] ⟨by simp,by simp⟩ (by simp) fun j ⟨h1,h2⟩=>?_
 unfold zc9
 simp
 apply gI<;>intro h
 ·have hj:j<l.length:=by simpa using h
  rw[aG hj,fi]at h2
  simp[aA hj]
  apply gI<;>intro h
  ·rw[aC h]at h2
   simp[<-h2]
  ·simp only[Bool.not_true]at h
   rw[aB (by rw[h];simp)]at h2
   refine fD (j+1) [] ⟨by omega,h2⟩ (by omega) ?_
   simp
   exact wI
 ·have hj:j=l.length:=by simp at h;omega
  subst hj
  rw[aO,fi]at h2
  simp[<-h2]
def zuA(l:List fC)(s:fC):PCall Pg 196 [.one (.sl false 1 (encS l)),.one (.str s)] (.one (.bool (l.any fun x=>decide (s=x)))):=by
 refine zfN (by simp) fun o c' hN hp=>?_
 unfold zc2
 simp
 refine gN (zsi l s) ?_
 simp
 exact zvz (fun x=>decide (s=x)) 0 l
def zo0:PCall Pg 197 [] (.one (.sl false 1 (encS zeC))):=by
 refine zwH (by simp) fun o c' hN hp=>?_
 unfold zmO
 have h:=zA7
 unfold zcO at h
 generalize zeC=L at*
 simp
 refine gN h ?_
 simp
def zkM(s:fC):Bool:=decide (s≠bs [])&&(decide (s.size<=32)&&((match s.data.toList with|b::_=>zjY b.toNat|[]=>false)&&(decide (rowB ziA s.data.toList=s.size)&& !zeC.any fun x=>decide (s=x))))
def zns(s:fC):PCall Pg 182 [.one (.str s)] (.one (.bool (zkM s))):=by
 refine zyR (by simp) fun o c' hN hp=>?_
 have hlen:s.data.toList.length=s.size:=by rw[bu];try rfl
 have hw:=zo0
 unfold zom zkM
 generalize zeC=W at*
 by_cases he:s=bs []
 ·subst he
  simp
 by_cases h32:s.size<=32
 rotate_left
 ·have h32':¬((s.size:Int)<=32):=by omega
  simp[he,h32,h32']
 have h32':(s.size:Int)<=32:=by omega
 cases hd:s.data.toList with
 |nil=>exact absurd (by apply ByteArray.ext;apply bv;rw[hd];rfl) he
 | cons b l=>
  have h0:s.data[0]?=some b:=by rw[<-eB,hd];try rfl
  have hr:=zFK s
  rw[hd]at hr
  generalize hm:rowB ziA (b::l)=m at*
  simp[he,h32,h32',h0]
  refine gN (zfI b.toNat) ?_
  simp
  cases hb:zjY b.toNat
  ·simp
  ·simp
   refine gN hr ?_
   simp
   by_cases hms:m=s.size
   ·have hms':(m:Int)=(s.size:Int):=by omega
    simp[hms]
    refine gN hw ?_
    simp
    refine gN (zuA W s) ?_
    simp[he,h32,hms]
   ·have hms':¬((m:Int)=(s.size:Int)):=by omega
    simp[hms,hms']
@[simp] theorem zyq{α:Type}(f:Nat->Nat)(g:α->List D):AC.rens f∘((fun x=>List.map AC.d x)∘g)=(fun x=>List.map AC.d x)∘g:=by funext x;simp
def optD:Option Typ->D
 |none=>.sc (.pointer none)
 |some t=>.rp t.enc 0
def ofD(of:List (Option Typ)):List D:=of.map optD
@[simp] theorem zGG(of:List (Option Typ)):(ofD of).length=of.length:=by simp[ofD]
def zrq(of:List (Option Typ))(i:Nat):(ofD of)[i]?=(of[i]?).map optD:=by simp[ofD]
def zEM(of:List (Option Typ))(i:Nat)(x:Option Typ):(ofD of).set i (optD x)=ofD (of.set i x):=by simp[ofD,fB]
abbrev boxU(of:List (Option Typ)):Blk:=.box ((ofD of).map .d)
def zEN{α:Type}{cs:List α}{i:Nat}(h:i<cs.length)(x:α):put cs i [x]=cs.set i x:=by
 rw[put_eq _ _ _ (by simp;omega)]
 unfold splice
 rw[set_eq_take_append_cons_drop,aC h]
 simp
def zCW(t:Typ):zaj t<6:=by unfold zaj;split<;>omega
def putU(of:List (Option Typ))(k:Typ):Bool × List (Option Typ):=
 if zaj k<0 then(false,of)else match of.getD (zaj k).toNat none with
  |none=>(zaV k k,of.set (zaj k).toNat (some k))
  |some t=>(zaV k t,of)
def zuT(of:List (Option Typ))(k:Typ):(putU of k).2.length=of.length:=by
 unfold putU;split
 ·rfl
 ·split<;>simp
def putM(of:List (Option Typ))(hof:of.length=6)(k:Typ):
  MCall Pg 186 [.ag (k.enc.map .d),.c (.ptr 0 0)] [boxU of] (.c (.d (.bool (putU of k).1))) [boxU (putU of k).2]:=by
 refine zo6 MS0 fun ts hts ok hb c hN hp=>?_
 obtain⟨t0,rfl⟩:=za6 hts
 unfold ziH
 simp
 refine gN (zij k) ?_
 simp
 have htl:=zCW k
 unfold putU
 by_cases h0:zaj k<0
 ·simp[h0]
  exact fI [0] [1]
 ·generalize hz:zaj k=z at*
  obtain⟨i,rfl⟩:∃i:Nat,z=i:=⟨z.toNat,by omega⟩
  have hi:i<of.length:=by omega
  have hg:of.getD i none=of[i]:=by rw[aH,aA hi];try rfl
  rw[aB h0,az,hg]
  have hput:∀x:Option Typ,put ((ofD of).map AC.d) i [AC.d (optD x)]=(ofD (of.set i x)).map AC.d:=fun x=>by
   rw[zEN (by simpa using hi),<-zEM,fB]
  have hputk:=hput (some k)
  have hgs:∀x,(ofD (of.set i x))[i]?=some (optD x):=fun x=>by rw[zrq,getElem?_set_self hi];try rfl
  have hgsk:=hgs (some k)
  have hgi:(ofD of)[i]?=some (optD of[i]):=by rw[zrq,aA hi];try rfl
  have hneg:¬((i:Int)<0):=by omega
  cases he:of[i]with
  |none=>
   rw[he]at hgi
   simp only[optD]at hgi hgsk hputk
   simp[hgi,hputk,hgsk,hneg,htl]
   refine⟨by omega,?_⟩
   refine gN (zk2 k k) ?_
   simp
   refine⟨by decide,?_⟩
   exact fJ [0] [1] (by simp;exact hputk)
  |some t=>
   rw[he]at hgi
   simp only[optD]at hgi
   simp[hgi,hneg,htl]
   refine gN (zk2 k t) ?_
   simp
   refine⟨by decide,?_⟩
   exact fI [0] [1]
def mems(k:Typ):List Typ:=if k.kind=7 then k.kids else [k]
def zbm:List Typ->List (Option Typ)->Bool × List (Option Typ)
 |[],of=>(true,of)
 |m::l,of=>if(putU of m).1=true then zbm l (putU of m).2 else(false,of)
def zqv:∀(a b:List Typ) (of:List (Option Typ)),zbm (a++b) of=if(zbm a of).1=true then zbm b (zbm a of).2 else(false,(zbm a of).2)
 |[],b,of=>by simp[zbm]
 |m::a,b,of=>by
  rw[cons_append,zbm,zbm]
  split
  ·exact zqv a b _
  ·simp
def zkP:∀(l:List Typ) (of:List (Option Typ)),(zbm l of).2.length=of.length
 |[],of=>rfl
 |m::l,of=>by
  rw[zbm]
  split
  ·rw[zkP,zuT]
  ·rfl
def noU:List (Option Typ):=[none,none,none,none,none,none]
def zd2(kids:List Typ):Typ × Bool:=match zbm (kids.flatMap mems) noU with
 |(false,_)=>(.mk 0 (bs []) [] [],false)
 |(true,of)=>match of.filterMap id with
  |[t]=>(t,true)
  |l=>(.mk 7 (bs []) [] l,decide (0<l.length))
abbrev box4:Blk:=.box [.d (.int .i64 0),.d (.str (bs [])),.d (.sl true 1 []),.d (.sl true 4 [])]
abbrev uniT(kids:List Typ)(i:Nat):List (Nat × AV):=[(2,.c (.ptr 0 0)),(4,.c (.ptr 1 0)),(5,.c (.fn (.func 186) [.ptr 1 0])),(15,.c (.d (.sl false 4 (kids.map Typ.enc)))),(16,.c (.d (.int .i64 kids.length))),(17,.c (.d (.int .i64 i)))]
def zuU{c:Ctx}(hp:c.pure)(kids:List Typ)(i:Nat)(tr:Bool)(l:List Typ)(hl:l.length<=4611686018427387904)(of:List (Option Typ))(hof:of.length=6){Q:Exit->St->Prop}{S:St}{g}{ms:List Nat}
  (h0:Match ms S ((30,.c (.d (.int .i64 0)))::(28,.c (.d (.sl tr 4 (l.map Typ.enc))))::(29,.c (.d (.int .i64 l.length)))::uniT kids i) [box4,boxU of])
  (hF:(zbm l of).1=false->∀T M n,Abs.look T 2=.c (.ptr 0 0)->Abs.look T 3=.c (.d (.bool false))->M 0=box4->Q .ret ⟨T,M,n⟩)
  (hQ:(zbm l of).1=true->∀T,Abs.look T 2=.c (.ptr 0 0)->Abs.look T 4=.c (.ptr 1 0)->Abs.look T 5=.c (.fn (.func 186) [.ptr 1 0])->Abs.look T 15=.c (.d (.sl false 4 (kids.map Typ.enc)))->Abs.look T 16=.c (.d (.int .i64 kids.length))->Abs.look T 17=.c (.d (.int .i64 i))->
   Q (.exit 2) ⟨T,hpOf [box4,boxU (zbm l of).2],2⟩):lw_ Pg c zfu Q g S:=by
 refine fK zaa hp (fun x:Nat × List (Option Typ)=>x.1<=l.length/\x.2.length=6/\zbm (l.drop x.1) x.2=zbm l of) (fun x=>(30,.c (.d (.int .i64 x.1)))::(28,.c (.d (.sl tr 4 (l.map Typ.enc))))::(29,.c (.d (.int .i64 l.length)))::uniT kids i)
  (fun x=>[box4,boxU x.2]) (fun x=>l.length-x.1) (0,of) ms ⟨by simp,hof,by simp⟩ h0 fun⟨j,o'⟩ ⟨h1,h3,h2⟩=>?_
 unfold zfu
 simp only at h1 h2 h3
 simp
 apply gI<;>intro h
 ·have hj:j<l.length:=by simpa using h
  rw[aG hj,zbm]at h2
  simp[aA hj]
  refine gK [1] (putM o' h3 l[j]) ?_
  simp
  apply gI<;>intro h
  ·simp at h
   rw[aB (by simp[h])]at h2
   rw[<-h2]at hF
   exact hF rfl _ _ _ (by simp) (by simp) (by simp)
  ·simp at h
   rw[aC h]at h2
   refine fD (j+1,(putU o' l[j]).2) [0,1] ⟨by simp only;omega,by simp only;rw[zuT];exact h3,h2⟩ (by simp;omega) ?_
   simp
   exact wI
 ·have hj:j=l.length:=by simp at h;omega
  subst hj
  rw[aO,zbm]at h2
  rw[<-h2]at hQ
  exact hQ rfl _ (by simp) (by simp) (by simp) (by simp) (by simp) (by simp)
def zAP{of:List (Option Typ)}{j:Nat}(h:j<of.length):(of.take (j+1)).filterMap id=(of.take j).filterMap id++(match of[j]with|some t=>[t]|none=>[]):=by
 rw[aJ h,filterMap_append]
 congr 1
 cases of[j]<;>rfl
def zuV:∀{l:List Typ},D.okE 4 (l.map Typ.enc)->∀k,k∈l->k.kids.length<=zaf
 |[],_,k,h=>by cases h
 |⟨a,b,c,d⟩::l,q,k,h=>by
  simp only[map_cons,D.okE,Typ.enc,D.okL,D.ok,Typ.encs_map,aU]at q
  cases h with
  |head=>exact q.1.2.2.2.2.1.1
  |tail _ h=>exact zuV q.2 k h
def zoH(kids:List Typ):PCall Pg 167 [.one (.sl false 4 (kids.map Typ.enc))] (.tup [.agg (zd2 kids).1.enc,.one (.bool (zd2 kids).2)]):=by
 refine ztf (by simp) fun o c hN hp=>?_
 have hl:kids.length<=zaf:=by
  have:=o.1;simp only[DV.ok,D.ok,aU]at this;exact this.1
 have hk:∀k,k∈kids->k.kids.length<=4611686018427387904:=by
  have:=o.1;simp only[DV.ok,D.ok]at this
  intro k hk;have:=zuV this.2 k hk;unfold zaf at this;exact this
 unfold zaf at hl
 unfold zj5
 simp
 refine fK zaa hp (fun x:Nat × List (Option Typ)=>x.1<=kids.length/\x.2.length=6/\zbm ((kids.drop x.1).flatMap mems) x.2=zbm (kids.flatMap mems) noU) (fun x=>uniT kids x.1)
  (fun x=>[box4,boxU x.2]) (fun x=>kids.length-x.1) (0,noU) [0,1] ⟨by simp,rfl,by simp⟩ (by simp[ofD,noU,optD]) fun⟨j,o'⟩ ⟨h1,h3,h2⟩=>?_
 unfold ziF
 simp only at h1 h2 h3
 simp
 apply gI<;>intro h
 ·have hj:j<kids.length:=by simpa using h
  rw[aG hj,flatMap_cons,zqv]at h2
  simp[aA hj]
  have hfin:∀l,mems kids[j]=l->(zbm l o').1=false->zd2 kids=(.mk 0 (bs []) [] [],false):=fun l e hf=>by
   rw[e,hf,aB (by simp)]at h2
   unfold zd2;rw[<-h2]
  by_cases h7:kids[j].kind=7
  ·have hm:mems kids[j]=kids[j].kids:=by unfold mems;rw[aC h7]
   simp[h7]
   refine zuU hp kids j false kids[j].kids (hk _ (aS hj)) o' h3 (ms:=[0,1]) (by simp) (fun hf T M n e2 e3 m0=>?_) fun ht T e2 e4 e5 e15 e16 e17=>?_
   ·rw[hfin _ hm hf]
    simp[e2,e3,m0,Typ.enc,Typ.encs,encS]
   ·rw[hm,aC ht]at h2
    simp[e2,e4,e5,e15,e16,e17]
    refine fD (j+1,(zbm kids[j].kids o').2) [0,1] ⟨by simp only;omega,by simp only;rw[zkP];exact h3,h2⟩ (by simp;omega) ?_
    simp[e2,e4,e5,e15,e16,e17]
    exact wI
  ·have hm:mems kids[j]=[kids[j]]:=by unfold mems;rw[aB h7]
   simp[h7]
   refine zuU hp kids j true [kids[j]] (by simp) o' h3 (ms:=[0,1]) (by simp) (fun hf T M n e2 e3 m0=>?_) fun ht T e2 e4 e5 e15 e16 e17=>?_
   ·rw[hfin _ hm hf]
    simp[e2,e3,m0,Typ.enc,Typ.encs,encS]
   ·rw[hm,aC ht]at h2
    simp[e2,e4,e5,e15,e16,e17]
    refine fD (j+1,(zbm [kids[j]] o').2) [0,1] ⟨by simp only;omega,by simp only;rw[zkP];exact h3,h2⟩ (by simp;omega) ?_
    simp[e2,e4,e5,e15,e16,e17]
    exact wI
 ·have hj:j=kids.length:=by simp at h;omega
  subst hj
  rw[aO,flatMap_nil,zbm]at h2
  have hres:zd2 kids=match o'.filterMap id with|[t]=>(t,true)|l=>(.mk 7 (bs []) [] l,decide (0<l.length)):=by
   unfold zd2;rw[<-h2]
  rw[hres]
  clear hres h2
  have hle:∀j,((o'.take j).filterMap id).length<=6:=fun j=>by
   have h1:=length_filterMap_le id (o'.take j)
   have h2:=length_take_le j o'
   rw[bI]at h1;omega
  simp
  refine fQ [.c 2 3] ?_
  have hcut:cut ((ofD o').map AC.d) 0 6=(ofD o').map AC.d:=by unfold cut;simp[h3]
  simp[hcut]
  refine⟨by omega,?_⟩
  refine fK zaa hp (fun j:Nat=>j<=6) (fun j=>[(43,.c (.d (.int .i64 j))),(42,.ag ((ofD o').map .d)),(11,.c (.ptr 2 0)),(2,.c (.ptr 0 0))])
   (fun j=>[box4,boxU o',.box [.d (.int .i64 7),.d (.str (bs [])),.d (.sl true 1 []),.msl 4 3 0 ((o'.take j).filterMap id).length],.arr 4 ((((o'.take j).filterMap id).map Typ.enc).map (·.map .d))]) (fun j=>6-j) 0 [0,1,2,3] (by simp) (by simp) fun j h1=>?_
  unfold ziG
  simp
  apply gI<;>intro h
  ·have hj:j<6:=by simp at h;omega
   have hjo:j<o'.length:=by omega
   have hgi:(ofD o')[j]?=some (optD o'[j]):=by rw[zrq,aA hjo];try rfl
   have hft:=zAP hjo
   have hle':=hle j
   cases he:o'[j]with
   |none=>
    rw[he]at hgi hft
    simp only[optD,bL]at hgi hft
    simp[hgi]
    refine⟨by omega,fQ [] ?_⟩
    simp
    refine fD (j+1) [0,1,2,3] (by omega) (by omega) ?_
    rw[hft]
    simp
    exact⟨wI,fun x _=>by cases x<;>rfl⟩
   |some t=>
    rw[he]at hgi hft
    simp only[optD]at hgi hft
    simp[hgi]
    refine⟨by omega,by omega,by decide,fQ [] ?_⟩
    simp
    refine fD (j+1) [0,1,2,4] (by omega) (by omega) ?_
    rw[hft]
    simp
    exact⟨wI,aF (by simp),fun x _=>by cases x<;>rfl⟩
  ·have hj:j=6:=by simp at h;omega
   subst hj
   have ht6:o'.take 6=o':=aF (by omega)
   rw[ht6]
   have hle6:=hle 6
   rw[ht6]at hle6
   have hex:∀t,t∈o'.filterMap id->∃x,x∈o'/\∃b,x=some b:=fun t ht=>by
    rw[mem_filterMap]at ht
    obtain⟨a,h1,h2⟩:=ht
    exact⟨a,h1,t,h2⟩
   generalize o'.filterMap id=L at*
   rcases L with _|⟨t,_|⟨t',l⟩⟩
   ·simp
    exact⟨by decide,by simp[Typ.enc,Typ.encs,encS]⟩
   ·have hex:=hex t (by simp)
    simp[hex]<;>(rw[Typ.enc_eq];rfl)
   ·have hex:=hex t (by simp)
    have h1:¬((l.length:Int)+1+1=1):=by omega
    have h2:(0:Int)<(l.length:Int)+1+1:=by omega
    have h3:(l.map Typ.enc).take l.length=l.map Typ.enc:=aF (by simp)
    simp[hex,h1,h2,h3]
    exact⟨by decide,by simp[Typ.enc,Typ.encs,Typ.encs_map,encS]⟩
end Go.Gr.P
