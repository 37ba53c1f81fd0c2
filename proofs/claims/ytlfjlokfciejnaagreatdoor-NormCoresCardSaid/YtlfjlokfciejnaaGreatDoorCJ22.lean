/- Texts of ours, joined and written short by a program of ours. -/
import Derived.Test.YtlfjlokfciejnaaGreatDoorCLayF
import Derived.Test.YtlfjlokfciejnaaGreatDoorCSrt
import Derived.Test.YtlfjlokfciejnaaGreatDoorCJ20
import Derived.Test.YtlfjlokfciejnaaGreatDoorCJ18
set_option maxRecDepth 20000
set_option maxHeartbeats 4000000
set_option linter.unusedVariables false
set_option linter.unusedSimpArgs false
namespace Go.Abs
open Go.RowKit
theorem gu.row{P:Program}{f:FuncId}{args:List DV}{ds:List D}(hc:callee P f=true)(hl:ds.length<=zah)
  (H:∀(h:PH) (w:World) (argsC:List Value),(∀B o,h B=some o->w.heap[B]?=some o)->yR P h->ji h args argsC->
   Calls P f argsC.toArray w λe w'=>∃(v:Value) (xs:List Value) (t:TypeId),e=.returned v/\(∀h,RepL h ds xs)/\w'.ownsRow w.heap.size t 1 v ds.length xs/\Below w.heap.size w w'):
  gu P f args (.one (.sl false 1 (ds.map λd=>[d]))):=by
 refine⟨hc,λh w argsC K G r=>?_⟩;refine(H h w argsC K G r).mono λe w' q=>?_;obtain⟨v,xs,t,e1,e2,e3,e4⟩:=q;have lt:∀B o,h B=some o->B<w.heap.size:=λB o e=>by
  rcases aW B w.heap.size with q|q
  ·exact q
  ·have:=K B o e;rw[aj q]at this;cases this
 obtain⟨h',q1,q2,q3,q4⟩:=zny e3 rfl hl e2 (h:=h) λB o e=>⟨lt B o e,by rw[e4.block B (lt B o e)];exact K B o e⟩
 exact⟨v,h',e1,q1,q2,q3,e4.size,λB hB=>e4.block B hB,⟨e4.os,e4.tape,e4.output⟩,by simpa only[kR]using q4⟩
end Go.Abs
namespace Go.Gr.P
open Go.Abs Go.Proofs Go.RowKit
def vH:fI:=bs [97,110,100,32,97,110,121,32,97,115,32,98,111,111,108,32,101,108,115,101,32,101,120,112,111,114,116,32,102,97,108,115,101,32,102,110,32,102,117,110,99,116,105,111,110,32,105,102,32,105,109,112,111,114,116,32,105,110,32,105,110,116,32,105,115,32,108,101,116,32,110,111,116,32,110,117,108,108,32,111,114,32,112,114,105,110,116,32,114,101,97,100,32,114,101,99,111,114,100,32,115,116,114,32,116,104,101,110,32,116,114,117,101,32,119,105,116,104]
def wF:List fI:=(Lib.fields vH.data.toList).map λl=>⟨l.toArray⟩
theorem zkd:vH.size<=1000:=by decide
theorem zjG:∀(j:Nat) b,vH.data.toList[j]?=some b->b.toNat<128:=λj b h=>by
 have hm:=ae h;have hall:(vH.data.toList.all λb=>decide (b.toNat<128))=true:=by decide
 simpa using ah.1 hall b hm
theorem zoe:∀c,c<256->Kq c=if Lib.isSp (UInt8.ofNat c)then 1 else 0:=by decide
theorem zl5:gu Pg 213 [.one (.str vH)] (.one (.sl false 1 (encS wF))):=by
 have e:encS wF=(wF.map D.str).map λd=>[d]:=by simp[encS]
 rw[e];have hlen:wF.length<=1000:=by decide+kernel
 refine gu.row (by decide+kernel) (by simp[zah];omega) λh w argsC K G r=>?_
 match argsC,r with
 | [v],r=>
  simp only[ji,kR,RepD,and_true]at r;obtain⟨rfl,_⟩:=r;have hg : Tryz.prog.globalNamed "strings.asciiSpace" = some (Tryz.fields213_ren.g 0) := by kernel_rfl
  obtain⟨o,g1,g2⟩:=G _ hg;refine(Any.strings_Fields_core Tryz.fields213 (by kernel_rfl) vH w (by have:=zkd;omega) zjG λc hc=>?_).mono λe w' q=>?_
  ·rw[g2 w (K _ _ g1) c hc,zoe c hc]
  ·obtain⟨rfl,rfl⟩:=q;have hk:(wF.map D.str).length=(Lib.fields vH.data.toList).length:=by simp[wF]
   have hk2:wF.length=(Lib.fields vH.data.toList).length:=by simp[wF]
   have hb:(1000:Nat)<=maxLen:=by decide
   have hsz:(Lib.fields vH.data.toList).length<=maxLen:=by omega
   have hmap:((Lib.fields vH.data.toList).map λl=>Value.string ⟨l.toArray⟩)=(Lib.fields vH.data.toList).map encStr:=rfl;have hlens:∀x,x∈Lib.fields vH.data.toList->x.length<=zah:=λx hx=>by
    have hw:((Lib.fields vH.data.toList).all λx=>decide (x.length<=1000))=true:=by decide+kernel
    have:=ah.1 hw x hx;simp at this;unfold zah;omega
   refine⟨_,(Lib.fields vH.data.toList).map encStr,Tryz.fields213_ren.t 9,rfl,λh=>ziN hlens,?_,(Below.refl _ _).alloc (aQ _) _⟩;rw[hk];refine⟨by simp,.inr ⟨w.heap.size,(Lib.fields vH.data.toList).length,_,rfl,aQ _,Array.getElem?_push_size,aQ _,hsz,by simp,?_⟩⟩;rw[hmap];exact aD (by simp)
end Go.Gr.P
namespace Go.Gr.P
open Go.Abs Go.Proofs List
def Dg(c:Int):Bool:=decide (97<=c/\c<=122\/65<=c/\c<=90\/c=95)
def BJ(c:Int):Bool:=Dg c||decide (48<=c/\c<=57)
theorem ER(c:Int):gu Pg 193 [.one (.int .u8 c)] (.one (.bool (Dg c))):=by
 refine zjq (by simp) λo c' hN hp=>?_;unfold ze9 Dg;by_cases h1:97<=c<;>by_cases h2:c<=122<;>by_cases h3:65<=c<;>by_cases h4:c<=90<;>simp[h1,h2,h3,h4]<;>(try (intros;omega))<;>(try omega)
theorem ES(c:Int):gu Pg 212 [.one (.int .u8 c)] (.one (.bool (decide (48<=c/\c<=57)))):=by
 refine zj6 (by simp) λo c' hN hp=>?_;unfold zfD;by_cases h1:48<=c<;>by_cases h2:c<=57<;>simp[h1,h2]<;>(try omega)
theorem zmP(c:Int):gu Pg 195 [.one (.int .u8 c)] (.one (.bool (BJ c))):=by
 refine zj5 (by simp) λo c' hN hp=>?_;unfold zfC BJ;simp;refine gp (ER c) ?_;simp;apply gT<;>intro h
 ·refine gp (ES c) ?_;rw[h];simp
 ·rw[h];simp
def sJ(q:Int->Bool):List UInt8->Nat
|[]=>0
|b::l=>if q b.toNat=true then sJ q l+1 else 0
theorem zoa(s:fI):gu Pg 194 [.one (.str s),.one (.fn (.func 195) [])] (.one (.int .i64 (sJ BJ s.data.toList))):=by
 refine zlT (by simp) λo c' hN hp=>?_;have hs:s.size<=zah:=by have:=o.1;simpa only[DV.ok,D.ok]using this
 unfold zah at hs;have hlen:s.data.toList.length=s.size:=by rw[cz];try rfl
 unfold zg8;simp;refine fU iC hp (λj:Nat=>j<=s.size/\j+sJ BJ (s.data.toList.drop j)=sJ BJ s.data.toList) (λj=>[(8,.c (.d (.int .i64 j))),(7,.c (.d (.int .i64 s.size))),(0,.c (.d (.str s))),(1,.c (.d (.fn (.func 195) [])))]) (λ_=>[]) (λj=>s.size-j) 0 [] ⟨by simp,by simp⟩ (by simp) λj ⟨h1,h2⟩=>?_;unfold zfB;simp;apply gT<;>intro h
 ·have hj:j<s.size:=by simpa using h
  have hj':j<s.data.toList.length:=by omega
  rw[aF hj',sJ]at h2;have hb:s.data.toList[j]?=some s.data.toList[j]:=aA hj';generalize s.data.toList[j]=b at h2 hb;have hb':s.data[j]?=some b:=by simpa using hb
  simp[hb'];refine gp (zmP b.toNat) ?_;simp;apply gT<;>intro h
  ·simp at h;rw[aB (by simp[h])]at h2;simp[<-h2]
  ·simp at h;rw[aC h]at h2;refine fJ (j+1) [] ⟨by omega,by omega⟩ (by omega) ?_;simp;exact wI
 ·have hj:j=s.size:=by simp at h;omega
  subst hj;rw[bF (by omega),sJ]at h2;simp[<-h2]
theorem zlP(l:List fI)(s:fI):gu Pg 146 [.one (.sl false 1 (encS l)),.one (.str s)] (.one (.int .i64 (fi (λx=>decide (s=x)) 0 l))):=by
 refine zcj (by simp) λo c' hN hp=>?_;have hl:l.length<=zah:=by
  have:=o.1;simp only[DV.ok,D.ok,Bc]at this;exact this.1
 unfold zah at hl;unfold zbg;simp;refine fU iC hp (λj:Nat=>j<=l.length/\fi (λx=>decide (s=x)) j (l.drop j)=fi (λx=>decide (s=x)) 0 l) (λj=>[(8,.c (.d (.int .i64 j))),(7,.c (.d (.int .i64 l.length))),(0,.c (.d (.sl false 1 (encS l)))),(1,.c (.d (.str s)))]) (λ_=>[]) (λj=>l.length-j) 0 [] ⟨by simp,by simp⟩ (by simp) λj ⟨h1,h2⟩=>?_;unfold za7;simp;apply gT<;>intro h
 ·have hj:j<l.length:=by simpa using h
  rw[aF hj,fi]at h2;simp[aA hj];apply gT<;>intro h
  ·rw[aC h]at h2;simp[<-h2]
  ·simp only[Bool.not_true]at h;rw[aB (by rw[h];simp)]at h2;refine fJ (j+1) [] ⟨by omega,h2⟩ (by omega) ?_;simp;exact wI
 ·have hj:j=l.length:=by simp at h;omega
  subst hj;rw[aO,fi]at h2;simp[<-h2]
theorem zjl(l:List fI)(s:fI):gu Pg 196 [.one (.sl false 1 (encS l)),.one (.str s)] (.one (.bool (l.any λx=>decide (s=x)))):=by
 refine zb1 (by simp) λo c' hN hp=>?_;unfold za4;simp;refine gp (zlP l s) ?_;simp;exact Qm (λx=>decide (s=x)) 0 l
theorem M6:gu Pg 197 [] (.one (.sl false 1 (encS wF))):=by
 refine zj7 (by simp) λo c' hN hp=>?_;unfold zfE;have h:=zl5;unfold vH at h;generalize wF=L at*
 simp;refine gp h ?_;simp
def BK(s:fI):Bool:=decide (s≠bs [])&&(decide (s.size<=32)&&((match s.data.toList with|b::_=>Dg b.toNat|[]=>false)&&(decide (sJ BJ s.data.toList=s.size)&& !wF.any λx=>decide (s=x))))
theorem Iw(s:fI):gu Pg 182 [.one (.str s)] (.one (.bool (BK s))):=by
 refine zkX (by simp) λo c' hN hp=>?_;have hlen:s.data.toList.length=s.size:=by rw[cz];try rfl
 have hw:=M6;unfold zgr BK;generalize wF=W at*
 by_cases he:s=bs []
 ·subst he;simp
 by_cases h32:s.size<=32;rotate_left
 ·have h32':¬((s.size:Int)<=32):=by omega
  simp[he,h32,h32']
 have h32':(s.size:Int)<=32:=by omega
 cases hd:s.data.toList with
 |nil=>exact absurd (by apply ByteArray.ext;apply dD;rw[hd];rfl) he
 | cons b l=>
  have h0:s.data[0]?=some b:=by rw[<-eQ,hd];try rfl
  have hr:=zoa s;rw[hd]at hr;generalize hm:sJ BJ (b::l)=m at*
  simp[he,h32,h32',h0];refine gp (ER b.toNat) ?_;simp;cases hb:Dg b.toNat
  ·simp
  ·simp;refine gp hr ?_;simp;by_cases hms:m=s.size
   ·have hms':(m:Int)=(s.size:Int):=by omega
    simp[hms];refine gp hw ?_;simp;refine gp (zjl W s) ?_;simp[he,h32,hms]
   ·have hms':¬((m:Int)=(s.size:Int)):=by omega
    simp[hms,hms']
def qR:Option gq->D
|none=>.sc (.pointer none)
|some t=>.rp t.enc 0
def uo(of:List (Option gq)):List D:=of.map qR
@[simp] theorem zJB(of:List (Option gq)):(uo of).length=of.length:=by simp[uo]
theorem Qo(of:List (Option gq))(i:Nat):(uo of)[i]?=(of[i]?).map qR:=by simp[uo]
theorem znQ(of:List (Option gq))(i:Nat)(x:Option gq):(uo of).set i (qR x)=uo (of.set i x):=by simp[uo,fA]
abbrev wG(of:List (Option gq)):Blk:=.box ((uo of).map .d)
theorem znR{α:Type}{cs:List α}{i:Nat}(h:i<cs.length)(x:α):put cs i [x]=cs.set i x:=by
 rw[put_eq _ _ _ (by simp;omega)];unfold splice;rw[set_eq_take_append_cons_drop,aC h];simp
theorem zmR(t:gq):iN t<6:=by unfold iN;split<;>omega
def qU(of:List (Option gq))(k:gq):Bool × List (Option gq):=
 if iN k<0 then(false,of)else match of.getD (iN k).toNat none with
  |none=>(ky k k,of.set (iN k).toNat (some k))
  |some t=>(ky k t,of)
theorem zjs(of:List (Option gq))(k:gq):(qU of k).2.length=of.length:=by
 unfold qU;split
 ·rfl
 ·split<;>simp
theorem Qp(of:List (Option gq))(hof:of.length=6)(k:gq):
  MCall Pg 186 [.ag (k.enc.map .d),.c (.ptr 0 0)] [wG of] (.c (.d (.bool (qU of k).1))) [wG (qU of k).2]:=by
 refine zgK nE λts hts ok hb c hN hp=>?_;obtain⟨t0,rfl⟩:=mF hts;unfold zdi;simp;refine gp (DD k) ?_;simp;have htl:=zmR k;unfold qU;by_cases h0:iN k<0
 ·simp[h0];exact fQ [0] [1]
 ·generalize hz:iN k=z at*
  obtain⟨i,rfl⟩:∃i:Nat,z=i:=⟨z.toNat,by omega⟩
  have hi:i<of.length:=by omega
  have hg:of.getD i none=of[i]:=by rw[aH,aA hi];try rfl
  rw[aB h0,az,hg];have hput:∀x:Option gq,put ((uo of).map AC.d) i [AC.d (qR x)]=(uo (of.set i x)).map AC.d:=λx=>by
   rw[znR (by simpa using hi),<-znQ,fA]
  have hputk:=hput (some k);have hgs:∀x,(uo (of.set i x))[i]?=some (qR x):=λx=>by rw[Qo,getElem?_set_self hi];try rfl
  have hgsk:=hgs (some k);have hgi:(uo of)[i]?=some (qR of[i]):=by rw[Qo,aA hi];try rfl
  have hneg:¬((i:Int)<0):=by omega
  cases he:of[i]with
  |none=>
   rw[he]at hgi;simp only[qR]at hgi hgsk hputk;simp[hgi,hputk,hgsk,hneg,htl];refine⟨by omega,?_⟩;refine gp (K6 k k) ?_;simp;refine⟨by decide,?_⟩;exact fT [0] [1] (by simp;exact hputk)
  |some t=>
   rw[he]at hgi;simp only[qR]at hgi;simp[hgi,hneg,htl];refine gp (K6 k t) ?_;simp;refine⟨by decide,?_⟩;exact fQ [0] [1]
def iy(k:gq):List gq:=if k.kind=7 then k.kids else [k]
def oG:List gq->List (Option gq)->Bool × List (Option gq)
|[],of=>(true,of)
|m::l,of=>if(qU of m).1=true then oG l (qU of m).2 else(false,of)
theorem zg9:∀(a b:List gq) (of:List (Option gq)),oG (a++b) of=if(oG a of).1=true then oG b (oG a of).2 else(false,(oG a of).2)
|[],b,of=>by simp[oG]
|m::a,b,of=>by
 rw[cons_append,oG,oG];split
 ·exact zg9 a b _
 ·simp
theorem Qq:∀(l:List gq) (of:List (Option gq)),(oG l of).2.length=of.length
|[],of=>rfl
|m::l,of=>by
 rw[oG];split
 ·rw[Qq,zjs]
 ·rfl
def zy:List (Option gq):=[none,none,none,none,none,none]
def xA(kids:List gq):gq × Bool:=match oG (kids.flatMap iy) zy with
|(false,_)=>(.mk 0 (bs []) [] [],false)
|(true,of)=>match of.filterMap id with
 |[t]=>(t,true)
 |l=>(.mk 7 (bs []) [] l,decide (0<l.length))
abbrev mY:Blk:=.box [.d (.int .i64 0),.d (.str (bs [])),.d (.sl true 1 []),.d (.sl true 4 [])]
abbrev vX(kids:List gq)(i:Nat):List (Nat × AV):=[(2,.c (.ptr 0 0)),(4,.c (.ptr 1 0)),(5,.c (.fn (.func 186) [.ptr 1 0])),(15,.c (.d (.sl false 4 (kids.map gq.enc)))),(16,.c (.d (.int .i64 kids.length))),(17,.c (.d (.int .i64 i)))]
theorem zjt{c:Ctx}(hp:c.pure)(kids:List gq)(i:Nat)(tr:Bool)(l:List gq)(hl:l.length<=4611686018427387904)(of:List (Option gq))(hof:of.length=6){Q:Exit->St->Prop}{S:St}{g}{ms:List Nat}
  (h0:iM ms S ((30,.c (.d (.int .i64 0)))::(28,.c (.d (.sl tr 4 (l.map gq.enc))))::(29,.c (.d (.int .i64 l.length)))::vX kids i) [mY,wG of])
  (hF:(oG l of).1=false->∀T M n,Abs.look T 2=.c (.ptr 0 0)->Abs.look T 3=.c (.d (.bool false))->M 0=mY->Q .ret ⟨T,M,n⟩)
  (hQ:(oG l of).1=true->∀T,Abs.look T 2=.c (.ptr 0 0)->Abs.look T 4=.c (.ptr 1 0)->Abs.look T 5=.c (.fn (.func 186) [.ptr 1 0])->Abs.look T 15=.c (.d (.sl false 4 (kids.map gq.enc)))->Abs.look T 16=.c (.d (.int .i64 kids.length))->Abs.look T 17=.c (.d (.int .i64 i))->
   Q (.exit 2) ⟨T,hpOf [mY,wG (oG l of).2],2⟩):lU Pg c Q4 Q g S:=by
 refine fU iC hp (λx:Nat × List (Option gq)=>x.1<=l.length/\x.2.length=6/\oG (l.drop x.1) x.2=oG l of) (λx=>(30,.c (.d (.int .i64 x.1)))::(28,.c (.d (.sl tr 4 (l.map gq.enc))))::(29,.c (.d (.int .i64 l.length)))::vX kids i)
  (λx=>[mY,wG x.2]) (λx=>l.length-x.1) (0,of) ms ⟨by simp,hof,by simp⟩ h0 λ⟨j,o'⟩ ⟨h1,h3,h2⟩=>?_
 unfold Q4;simp only at h1 h2 h3;simp;apply gT<;>intro h
 ·have hj:j<l.length:=by simpa using h
  rw[aF hj,oG]at h2;simp[aA hj];refine gU [1] (Qp o' h3 l[j]) ?_;simp;apply gT<;>intro h
  ·simp at h;rw[aB (by simp[h])]at h2;rw[<-h2]at hF;exact hF rfl _ _ _ (by simp) (by simp) (by simp)
  ·simp at h;rw[aC h]at h2;refine fJ (j+1,(qU o' l[j]).2) [0,1] ⟨by simp only;omega,by simp only;rw[zjs];exact h3,h2⟩ (by simp;omega) ?_;simp;exact wI
 ·have hj:j=l.length:=by simp at h;omega
  subst hj;rw[aO,oG]at h2;rw[<-h2]at hQ;exact hQ rfl _ (by simp) (by simp) (by simp) (by simp) (by simp) (by simp)
theorem zlU{of:List (Option gq)}{j:Nat}(h:j<of.length):(of.take (j+1)).filterMap id=(of.take j).filterMap id++(match of[j]with|some t=>[t]|none=>[]):=by
 rw[aJ h,filterMap_append];congr 1;cases of[j]<;>rfl
theorem zju:∀{l:List gq},D.okE 4 (l.map gq.enc)->∀k,k∈l->k.kids.length<=zah
|[],_,k,h=>by cases h
|⟨a,b,c,d⟩::l,q,k,h=>by
 simp only[map_cons,D.okE,gq.enc,D.okL,D.ok,gq.encs_map,aU]at q;cases h with
 |head=>exact q.1.2.2.2.2.1.1
 |tail _ h=>exact zju q.2 k h
theorem NM(kids:List gq):gu Pg 167 [.one (.sl false 4 (kids.map gq.enc))] (.tup [.agg (xA kids).1.enc,.one (.bool (xA kids).2)]):=by
 refine ziA (by simp) λo c hN hp=>?_;have hl:kids.length<=zah:=by
  have:=o.1;simp only[DV.ok,D.ok,aU]at this;exact this.1
 have hk:∀k,k∈kids->k.kids.length<=4611686018427387904:=by
  have:=o.1;simp only[DV.ok,D.ok]at this;intro k hk;have:=zju this.2 k hk;unfold zah at this;exact this
 unfold zah at hl;unfold zd9;simp
 refine fU iC hp (λx:Nat × List (Option gq)=>x.1<=kids.length/\x.2.length=6/\oG ((kids.drop x.1).flatMap iy) x.2=oG (kids.flatMap iy) zy) (λx=>vX kids x.1)
  (λx=>[mY,wG x.2]) (λx=>kids.length-x.1) (0,zy) [0,1] ⟨by simp,rfl,by simp⟩ (by simp[uo,zy,qR]) λ⟨j,o'⟩ ⟨h1,h3,h2⟩=>?_
 unfold zdg;simp only at h1 h2 h3;simp;apply gT<;>intro h
 ·have hj:j<kids.length:=by simpa using h
  rw[aF hj,flatMap_cons,zg9]at h2;simp[aA hj];have hfin:∀l,iy kids[j]=l->(oG l o').1=false->xA kids=(.mk 0 (bs []) [] [],false):=λl e hf=>by
   rw[e,hf,aB (by simp)]at h2;unfold xA;rw[<-h2]
  by_cases h7:kids[j].kind=7
  ·have hm:iy kids[j]=kids[j].kids:=by unfold iy;rw[aC h7]
   simp[h7];refine zjt hp kids j false kids[j].kids (hk _ (aP hj)) o' h3 (ms:=[0,1]) (by simp) (λhf T M n e2 e3 m0=>?_) λht T e2 e4 e5 e15 e16 e17=>?_
   ·rw[hfin _ hm hf];simp[e2,e3,m0,gq.enc,gq.encs,encS]
   ·rw[hm,aC ht]at h2;simp[e2,e4,e5,e15,e16,e17];refine fJ (j+1,(oG kids[j].kids o').2) [0,1] ⟨by simp only;omega,by simp only;rw[Qq];exact h3,h2⟩ (by simp;omega) ?_;simp[e2,e4,e5,e15,e16,e17];exact wI
  ·have hm:iy kids[j]=[kids[j]]:=by unfold iy;rw[aB h7]
   simp[h7];refine zjt hp kids j true [kids[j]] (by simp) o' h3 (ms:=[0,1]) (by simp) (λhf T M n e2 e3 m0=>?_) λht T e2 e4 e5 e15 e16 e17=>?_
   ·rw[hfin _ hm hf];simp[e2,e3,m0,gq.enc,gq.encs,encS]
   ·rw[hm,aC ht]at h2;simp[e2,e4,e5,e15,e16,e17];refine fJ (j+1,(oG [kids[j]] o').2) [0,1] ⟨by simp only;omega,by simp only;rw[Qq];exact h3,h2⟩ (by simp;omega) ?_;simp[e2,e4,e5,e15,e16,e17];exact wI
 ·have hj:j=kids.length:=by simp at h;omega
  subst hj;rw[aO,flatMap_nil,oG]at h2;have hres:xA kids=match o'.filterMap id with|[t]=>(t,true)|l=>(.mk 7 (bs []) [] l,decide (0<l.length)):=by
   unfold xA;rw[<-h2]
  rw[hres];clear hres h2;have hle:∀j,((o'.take j).filterMap id).length<=6:=λj=>by
   have h1:=length_filterMap_le id (o'.take j);have h2:=length_take_le j o';rw[bH]at h1;omega
  simp;refine fo [.c 2 3] ?_;have hcut:cut ((uo o').map AC.d) 0 6=(uo o').map AC.d:=by unfold cut;simp[h3]
  simp[hcut];refine⟨by omega,?_⟩
  refine fU iC hp (λj:Nat=>j<=6) (λj=>[(43,.c (.d (.int .i64 j))),(42,.ag ((uo o').map .d)),(11,.c (.ptr 2 0)),(2,.c (.ptr 0 0))])
   (λj=>[mY,wG o',.box [.d (.int .i64 7),.d (.str (bs [])),.d (.sl true 1 []),.msl 4 3 0 ((o'.take j).filterMap id).length],.arr 4 ((((o'.take j).filterMap id).map gq.enc).map (·.map .d))]) (λj=>6-j) 0 [0,1,2,3] (by simp) (by simp) λj h1=>?_
  unfold zdh;simp;apply gT<;>intro h
  ·have hj:j<6:=by simp at h;omega
   have hjo:j<o'.length:=by omega
   have hgi:(uo o')[j]?=some (qR o'[j]):=by rw[Qo,aA hjo];try rfl
   have hft:=zlU hjo;have hle':=hle j;cases he:o'[j]with
   |none=>
    rw[he]at hgi hft;simp only[qR,bN]at hgi hft;simp[hgi];refine⟨by omega,fo [] ?_⟩;simp;refine fJ (j+1) [0,1,2,3] (by omega) (by omega) ?_;rw[hft];simp;exact⟨wI,λx _=>by cases x<;>rfl⟩
   |some t=>
    rw[he]at hgi hft;simp only[qR]at hgi hft;simp[hgi];refine⟨by omega,by omega,by decide,fo [] ?_⟩;simp;refine fJ (j+1) [0,1,2,4] (by omega) (by omega) ?_;rw[hft];simp;exact⟨wI,aD (by simp),λx _=>by cases x<;>rfl⟩
  ·have hj:j=6:=by simp at h;omega
   subst hj;have ht6:o'.take 6=o':=aD (by omega);rw[ht6];have hle6:=hle 6;rw[ht6]at hle6;have hex:∀t,t∈o'.filterMap id->∃x,x∈o'/\∃b,x=some b:=λt ht=>by
    rw[mem_filterMap]at ht;obtain⟨a,h1,h2⟩:=ht;exact⟨a,h1,t,h2⟩
   generalize o'.filterMap id=L at*
   rcases L with _|⟨t,_|⟨t',l⟩⟩
   ·simp;exact⟨by decide,by simp[gq.enc,gq.encs,encS]⟩
   ·have hex:=hex t (by simp);simp[hex]<;>(rw[gq.enc_eq];rfl)
   ·have hex:=hex t (by simp);have h1:¬((l.length:Int)+1+1=1):=by omega
    have h2:(0:Int)<(l.length:Int)+1+1:=by omega
    have h3:(l.map gq.enc).take l.length=l.map gq.enc:=aD (by simp);simp[hex,h1,h2,h3];exact⟨by decide,by simp[gq.enc,gq.encs,gq.encs_map,encS]⟩
end Go.Gr.P
