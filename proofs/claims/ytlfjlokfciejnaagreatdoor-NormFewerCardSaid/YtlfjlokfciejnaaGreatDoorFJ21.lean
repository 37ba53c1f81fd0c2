/- Texts of ours, joined and written short by a program of ours. -/
import Derived.Test.YtlfjlokfciejnaaGreatDoorFLayF
import Derived.Test.YtlfjlokfciejnaaGreatDoorFSrt
import Derived.Test.YtlfjlokfciejnaaGreatDoorFJ19
import Derived.Test.YtlfjlokfciejnaaGreatDoorFJ17
set_option maxRecDepth 20000
set_option maxHeartbeats 4000000
set_option linter.unusedVariables false
set_option linter.unusedSimpArgs false
namespace Go.Abs
open Go.RowKit
theorem gU.row{P:Program}{f:FuncId}{args:List DV}{ds:List D}(hc:callee P f=true)(hl:ds.length<=zah)
  (H:∀(h:PH) (w:World) (argsC:List Value),(∀B o,h B=some o->w.heap[B]?=some o)->yH P h->jX h args argsC->
   Calls P f argsC.toArray w λe w'=>∃(v:Value) (xs:List Value) (t:TypeId),e=.returned v/\(∀h,RepL h ds xs)/\w'.ownsRow w.heap.size t 1 v ds.length xs/\Below w.heap.size w w'):
  gU P f args (.one (.sl false 1 (ds.map λd=>[d]))):=by
 refine⟨hc,λh w argsC K G r=>?_⟩;refine(H h w argsC K G r).mono λe w' q=>?_;obtain⟨v,xs,t,e1,e2,e3,e4⟩:=q;have lt:∀B o,h B=some o->B<w.heap.size:=λB o e=>by
  rcases aW B w.heap.size with q|q
  ·exact q
  ·have:=K B o e;rw[aj q]at this;cases this
 obtain⟨h',q1,q2,q3,q4⟩:=zny e3 rfl hl e2 (h:=h) λB o e=>⟨lt B o e,by rw[e4.block B (lt B o e)];exact K B o e⟩
 exact⟨v,h',e1,q1,q2,q3,e4.size,λB hB=>e4.block B hB,⟨e4.os,e4.tape,e4.output⟩,by simpa only[kL]using q4⟩
end Go.Abs
namespace Go.Gr.P
open Go.Abs Go.Proofs Go.RowKit
def uy:fE:=bs [97,110,100,32,97,110,121,32,97,115,32,98,111,111,108,32,101,108,115,101,32,101,120,112,111,114,116,32,102,97,108,115,101,32,102,110,32,102,117,110,99,116,105,111,110,32,105,102,32,105,109,112,111,114,116,32,105,110,32,105,110,116,32,105,115,32,108,101,116,32,110,111,116,32,110,117,108,108,32,111,114,32,112,114,105,110,116,32,114,101,97,100,32,114,101,99,111,114,100,32,115,116,114,32,116,104,101,110,32,116,114,117,101,32,119,105,116,104]
def vw:List fE:=(Lib.fields uy.data.toList).map λl=>⟨l.toArray⟩
theorem zkd:uy.size<=1000:=by decide
theorem zjG:∀(j:Nat) b,uy.data.toList[j]?=some b->b.toNat<128:=λj b h=>by
 have hm:=af h;have hall:(uy.data.toList.all λb=>decide (b.toNat<128))=true:=by decide
 simpa using ai.1 hall b hm
theorem zoe:∀c,c<256->Jz c=if Lib.isSp (UInt8.ofNat c)then 1 else 0:=by decide
theorem zl5:gU Pg 213 [.one (.str uy)] (.one (.sl false 1 (encS vw))):=by
 have e:encS vw=(vw.map D.str).map λd=>[d]:=by simp[encS]
 rw[e];have hlen:vw.length<=1000:=by decide+kernel
 refine gU.row (by decide+kernel) (by simp[zah];omega) λh w argsC K G r=>?_
 match argsC,r with
 | [v],r=>
  simp only[jX,kL,RepD,and_true]at r;obtain⟨rfl,_⟩:=r;have hg : Tryz.prog.globalNamed "strings.asciiSpace" = some (Tryz.fields213_ren.g 0) := by kernel_rfl
  obtain⟨o,g1,g2⟩:=G _ hg;refine(Any.strings_Fields_core Tryz.fields213 (by kernel_rfl) uy w (by have:=zkd;omega) zjG λc hc=>?_).mono λe w' q=>?_
  ·rw[g2 w (K _ _ g1) c hc,zoe c hc]
  ·obtain⟨rfl,rfl⟩:=q;have hk:(vw.map D.str).length=(Lib.fields uy.data.toList).length:=by simp[vw]
   have hk2:vw.length=(Lib.fields uy.data.toList).length:=by simp[vw]
   have hb:(1000:Nat)<=maxLen:=by decide
   have hsz:(Lib.fields uy.data.toList).length<=maxLen:=by omega
   have hmap:((Lib.fields uy.data.toList).map λl=>Value.string ⟨l.toArray⟩)=(Lib.fields uy.data.toList).map encStr:=rfl;have hlens:∀x,x∈Lib.fields uy.data.toList->x.length<=zah:=λx hx=>by
    have hw:((Lib.fields uy.data.toList).all λx=>decide (x.length<=1000))=true:=by decide+kernel
    have:=ai.1 hw x hx;simp at this;unfold zah;omega
   refine⟨_,(Lib.fields uy.data.toList).map encStr,Tryz.fields213_ren.t 9,rfl,λh=>ziN hlens,?_,(Below.refl _ _).alloc (aM _) _⟩;rw[hk];refine⟨by simp,.inr ⟨w.heap.size,(Lib.fields uy.data.toList).length,_,rfl,aM _,Array.getElem?_push_size,aM _,hsz,by simp,?_⟩⟩;rw[hmap];exact aG (by simp)
end Go.Gr.P
namespace Go.Gr.P
open Go.Abs Go.Proofs List
def Cy(c:Int):Bool:=decide (97<=c/\c<=122\/65<=c/\c<=90\/c=95)
def Ao(c:Int):Bool:=Cy c||decide (48<=c/\c<=57)
theorem Dp(c:Int):gU Pg 193 [.one (.int .u8 c)] (.one (.bool (Cy c))):=by
 refine zjq (by simp) λo c' hN hp=>?_;unfold Z4 Cy;by_cases h1:97<=c<;>by_cases h2:c<=122<;>by_cases h3:65<=c<;>by_cases h4:c<=90<;>simp[h1,h2,h3,h4]<;>(try (intros;omega))<;>(try omega)
theorem Dq(c:Int):gU Pg 212 [.one (.int .u8 c)] (.one (.bool (decide (48<=c/\c<=57)))):=by
 refine zj6 (by simp) λo c' hN hp=>?_;unfold Z8;by_cases h1:48<=c<;>by_cases h2:c<=57<;>simp[h1,h2]<;>(try omega)
theorem zmP(c:Int):gU Pg 195 [.one (.int .u8 c)] (.one (.bool (Ao c))):=by
 refine zj5 (by simp) λo c' hN hp=>?_;unfold Z7 Ao;simp;refine gQ (Dp c) ?_;simp;apply gM<;>intro h
 ·refine gQ (Dq c) ?_;rw[h];simp
 ·rw[h];simp
def rq(q:Int->Bool):List UInt8->Nat
|[]=>0
|b::l=>if q b.toNat=true then rq q l+1 else 0
theorem zoa(s:fE):gU Pg 194 [.one (.str s),.one (.fn (.func 195) [])] (.one (.int .i64 (rq Ao s.data.toList))):=by
 refine zlT (by simp) λo c' hN hp=>?_;have hs:s.size<=zah:=by have:=o.1;simpa only[DV.ok,D.ok]using this
 unfold zah at hs;have hlen:s.data.toList.length=s.size:=by rw[cB];try rfl
 unfold Z6;simp;refine fO gy hp (λj:Nat=>j<=s.size/\j+rq Ao (s.data.toList.drop j)=rq Ao s.data.toList) (λj=>[(8,.c (.d (.int .i64 j))),(7,.c (.d (.int .i64 s.size))),(0,.c (.d (.str s))),(1,.c (.d (.fn (.func 195) [])))]) (λ_=>[]) (λj=>s.size-j) 0 [] ⟨by simp,by simp⟩ (by simp) λj ⟨h1,h2⟩=>?_;unfold Z5;simp;apply gM<;>intro h
 ·have hj:j<s.size:=by simpa using h
  have hj':j<s.data.toList.length:=by omega
  rw[aD hj',rq]at h2;have hb:s.data.toList[j]?=some s.data.toList[j]:=aA hj';generalize s.data.toList[j]=b at h2 hb;have hb':s.data[j]?=some b:=by simpa using hb
  simp[hb'];refine gQ (zmP b.toNat) ?_;simp;apply gM<;>intro h
  ·simp at h;rw[aB (by simp[h])]at h2;simp[<-h2]
  ·simp at h;rw[aC h]at h2;refine fF (j+1) [] ⟨by omega,by omega⟩ (by omega) ?_;simp;exact wI
 ·have hj:j=s.size:=by simp at h;omega
  subst hj;rw[bE (by omega),rq]at h2;simp[<-h2]
theorem zlP(l:List fE)(s:fE):gU Pg 146 [.one (.sl false 1 (encS l)),.one (.str s)] (.one (.int .i64 (fi (λx=>decide (s=x)) 0 l))):=by
 refine zcj (by simp) λo c' hN hp=>?_;have hl:l.length<=zah:=by
  have:=o.1;simp only[DV.ok,D.ok,Di]at this;exact this.1
 unfold zah at hl;unfold Zc;simp;refine fO gy hp (λj:Nat=>j<=l.length/\fi (λx=>decide (s=x)) j (l.drop j)=fi (λx=>decide (s=x)) 0 l) (λj=>[(8,.c (.d (.int .i64 j))),(7,.c (.d (.int .i64 l.length))),(0,.c (.d (.sl false 1 (encS l)))),(1,.c (.d (.str s)))]) (λ_=>[]) (λj=>l.length-j) 0 [] ⟨by simp,by simp⟩ (by simp) λj ⟨h1,h2⟩=>?_;unfold Zb;simp;apply gM<;>intro h
 ·have hj:j<l.length:=by simpa using h
  rw[aD hj,fi]at h2;simp[aA hj];apply gM<;>intro h
  ·rw[aC h]at h2;simp[<-h2]
  ·simp only[Bool.not_true]at h;rw[aB (by rw[h];simp)]at h2;refine fF (j+1) [] ⟨by omega,h2⟩ (by omega) ?_;simp;exact wI
 ·have hj:j=l.length:=by simp at h;omega
  subst hj;rw[aO,fi]at h2;simp[<-h2]
theorem zjl(l:List fE)(s:fE):gU Pg 196 [.one (.sl false 1 (encS l)),.one (.str s)] (.one (.bool (l.any λx=>decide (s=x)))):=by
 refine zb1 (by simp) λo c' hN hp=>?_;unfold Za;simp;refine gQ (zlP l s) ?_;simp;exact PR (λx=>decide (s=x)) 0 l
theorem LX:gU Pg 197 [] (.one (.sl false 1 (encS vw))):=by
 refine zj7 (by simp) λo c' hN hp=>?_;unfold Z9;have h:=zl5;unfold uy at h;generalize vw=L at*
 simp;refine gQ h ?_;simp
def Ap(s:fE):Bool:=decide (s≠bs [])&&(decide (s.size<=32)&&((match s.data.toList with|b::_=>Cy b.toNat|[]=>false)&&(decide (rq Ao s.data.toList=s.size)&& !vw.any λx=>decide (s=x))))
theorem IR(s:fE):gU Pg 182 [.one (.str s)] (.one (.bool (Ap s))):=by
 refine zkX (by simp) λo c' hN hp=>?_;have hlen:s.data.toList.length=s.size:=by rw[cB];try rfl
 have hw:=LX;unfold Z0 Ap;generalize vw=W at*
 by_cases he:s=bs []
 ·subst he;simp
 by_cases h32:s.size<=32;rotate_left
 ·have h32':¬((s.size:Int)<=32):=by omega
  simp[he,h32,h32']
 have h32':(s.size:Int)<=32:=by omega
 cases hd:s.data.toList with
 |nil=>exact absurd (by apply ByteArray.ext;apply cZ;rw[hd];rfl) he
 | cons b l=>
  have h0:s.data[0]?=some b:=by rw[<-eH,hd];try rfl
  have hr:=zoa s;rw[hd]at hr;generalize hm:rq Ao (b::l)=m at*
  simp[he,h32,h32',h0];refine gQ (Dp b.toNat) ?_;simp;cases hb:Cy b.toNat
  ·simp
  ·simp;refine gQ hr ?_;simp;by_cases hms:m=s.size
   ·have hms':(m:Int)=(s.size:Int):=by omega
    simp[hms];refine gQ hw ?_;simp;refine gQ (zjl W s) ?_;simp[he,h32,hms]
   ·have hms':¬((m:Int)=(s.size:Int)):=by omega
    simp[hms,hms']
def qI:Option gT->D
|none=>.sc (.pointer none)
|some t=>.rp t.enc 0
def u6(of:List (Option gT)):List D:=of.map qI
@[simp] theorem zJB(of:List (Option gT)):(u6 of).length=of.length:=by simp[u6]
theorem PU(of:List (Option gT))(i:Nat):(u6 of)[i]?=(of[i]?).map qI:=by simp[u6]
theorem znQ(of:List (Option gT))(i:Nat)(x:Option gT):(u6 of).set i (qI x)=u6 (of.set i x):=by simp[u6,fD]
abbrev vz(of:List (Option gT)):Blk:=.box ((u6 of).map .d)
theorem znR{α:Type}{cs:List α}{i:Nat}(h:i<cs.length)(x:α):put cs i [x]=cs.set i x:=by
 rw[put_eq _ _ _ (by simp;omega)];unfold splice;rw[set_eq_take_append_cons_drop,aC h];simp
theorem zmR(t:gT):iH t<6:=by unfold iH;split<;>omega
def qJ(of:List (Option gT))(k:gT):Bool × List (Option gT):=
 if iH k<0 then(false,of)else match of.getD (iH k).toNat none with
  |none=>(kg k k,of.set (iH k).toNat (some k))
  |some t=>(kg k t,of)
theorem zjs(of:List (Option gT))(k:gT):(qJ of k).2.length=of.length:=by
 unfold qJ;split
 ·rfl
 ·split<;>simp
theorem PV(of:List (Option gT))(hof:of.length=6)(k:gT):
  MCall Pg 186 [.ag (k.enc.map .d),.c (.ptr 0 0)] [vz of] (.c (.d (.bool (qJ of k).1))) [vz (qJ of k).2]:=by
 refine zgK mX λts hts ok hb c hN hp=>?_;obtain⟨t0,rfl⟩:=mD hts;unfold ZY;simp;refine gQ (Ce k) ?_;simp;have htl:=zmR k;unfold qJ;by_cases h0:iH k<0
 ·simp[h0];exact fK [0] [1]
 ·generalize hz:iH k=z at*
  obtain⟨i,rfl⟩:∃i:Nat,z=i:=⟨z.toNat,by omega⟩
  have hi:i<of.length:=by omega
  have hg:of.getD i none=of[i]:=by rw[aH,aA hi];try rfl
  rw[aB h0,bB,hg];have hput:∀x:Option gT,put ((u6 of).map AC.d) i [AC.d (qI x)]=(u6 (of.set i x)).map AC.d:=λx=>by
   rw[znR (by simpa using hi),<-znQ,fD]
  have hputk:=hput (some k);have hgs:∀x,(u6 (of.set i x))[i]?=some (qI x):=λx=>by rw[PU,getElem?_set_self hi];try rfl
  have hgsk:=hgs (some k);have hgi:(u6 of)[i]?=some (qI of[i]):=by rw[PU,aA hi];try rfl
  have hneg:¬((i:Int)<0):=by omega
  cases he:of[i]with
  |none=>
   rw[he]at hgi;simp only[qI]at hgi hgsk hputk;simp[hgi,hputk,hgsk,hneg,htl];refine⟨by omega,?_⟩;refine gQ (Jf k k) ?_;simp;refine⟨by decide,?_⟩;exact fM [0] [1] (by simp;exact hputk)
  |some t=>
   rw[he]at hgi;simp only[qI]at hgi;simp[hgi,hneg,htl];refine gQ (Jf k t) ?_;simp;refine⟨by decide,?_⟩;exact fK [0] [1]
def iX(k:gT):List gT:=if k.kind=7 then k.kids else [k]
def nU:List gT->List (Option gT)->Bool × List (Option gT)
|[],of=>(true,of)
|m::l,of=>if(qJ of m).1=true then nU l (qJ of m).2 else(false,of)
theorem zg9:∀(a b:List gT) (of:List (Option gT)),nU (a++b) of=if(nU a of).1=true then nU b (nU a of).2 else(false,(nU a of).2)
|[],b,of=>by simp[nU]
|m::a,b,of=>by
 rw[cons_append,nU,nU];split
 ·exact zg9 a b _
 ·simp
theorem PW:∀(l:List gT) (of:List (Option gT)),(nU l of).2.length=of.length
|[],of=>rfl
|m::l,of=>by
 rw[nU];split
 ·rw[PW,zjs]
 ·rfl
def zh:List (Option gT):=[none,none,none,none,none,none]
def w9(kids:List gT):gT × Bool:=match nU (kids.flatMap iX) zh with
|(false,_)=>(.mk 0 (bs []) [] [],false)
|(true,of)=>match of.filterMap id with
 |[t]=>(t,true)
 |l=>(.mk 7 (bs []) [] l,decide (0<l.length))
abbrev mJ:Blk:=.box [.d (.int .i64 0),.d (.str (bs [])),.d (.sl true 1 []),.d (.sl true 4 [])]
abbrev vS(kids:List gT)(i:Nat):List (Nat × AV):=[(2,.c (.ptr 0 0)),(4,.c (.ptr 1 0)),(5,.c (.fn (.func 186) [.ptr 1 0])),(15,.c (.d (.sl false 4 (kids.map gT.enc)))),(16,.c (.d (.int .i64 kids.length))),(17,.c (.d (.int .i64 i)))]
theorem zjt{c:Ctx}(hp:c.pure)(kids:List gT)(i:Nat)(tr:Bool)(l:List gT)(hl:l.length<=4611686018427387904)(of:List (Option gT))(hof:of.length=6){Q:Exit->St->Prop}{S:St}{g}{ms:List Nat}
  (h0:iM ms S ((30,.c (.d (.int .i64 0)))::(28,.c (.d (.sl tr 4 (l.map gT.enc))))::(29,.c (.d (.int .i64 l.length)))::vS kids i) [mJ,vz of])
  (hF:(nU l of).1=false->∀T M n,Abs.look T 2=.c (.ptr 0 0)->Abs.look T 3=.c (.d (.bool false))->M 0=mJ->Q .ret ⟨T,M,n⟩)
  (hQ:(nU l of).1=true->∀T,Abs.look T 2=.c (.ptr 0 0)->Abs.look T 4=.c (.ptr 1 0)->Abs.look T 5=.c (.fn (.func 186) [.ptr 1 0])->Abs.look T 15=.c (.d (.sl false 4 (kids.map gT.enc)))->Abs.look T 16=.c (.d (.int .i64 kids.length))->Abs.look T 17=.c (.d (.int .i64 i))->
   Q (.exit 2) ⟨T,hpOf [mJ,vz (nU l of).2],2⟩):mW Pg c Ot Q g S:=by
 refine fO gy hp (λx:Nat × List (Option gT)=>x.1<=l.length/\x.2.length=6/\nU (l.drop x.1) x.2=nU l of) (λx=>(30,.c (.d (.int .i64 x.1)))::(28,.c (.d (.sl tr 4 (l.map gT.enc))))::(29,.c (.d (.int .i64 l.length)))::vS kids i)
  (λx=>[mJ,vz x.2]) (λx=>l.length-x.1) (0,of) ms ⟨by simp,hof,by simp⟩ h0 λ⟨j,o'⟩ ⟨h1,h3,h2⟩=>?_
 unfold Ot;simp only at h1 h2 h3;simp;apply gM<;>intro h
 ·have hj:j<l.length:=by simpa using h
  rw[aD hj,nU]at h2;simp[aA hj];refine gN [1] (PV o' h3 l[j]) ?_;simp;apply gM<;>intro h
  ·simp at h;rw[aB (by simp[h])]at h2;rw[<-h2]at hF;exact hF rfl _ _ _ (by simp) (by simp) (by simp)
  ·simp at h;rw[aC h]at h2;refine fF (j+1,(qJ o' l[j]).2) [0,1] ⟨by simp only;omega,by simp only;rw[zjs];exact h3,h2⟩ (by simp;omega) ?_;simp;exact wI
 ·have hj:j=l.length:=by simp at h;omega
  subst hj;rw[aO,nU]at h2;rw[<-h2]at hQ;exact hQ rfl _ (by simp) (by simp) (by simp) (by simp) (by simp) (by simp)
theorem zlU{of:List (Option gT)}{j:Nat}(h:j<of.length):(of.take (j+1)).filterMap id=(of.take j).filterMap id++(match of[j]with|some t=>[t]|none=>[]):=by
 rw[aJ h,filterMap_append];congr 1;cases of[j]<;>rfl
theorem zju:∀{l:List gT},D.okE 4 (l.map gT.enc)->∀k,k∈l->k.kids.length<=zah
|[],_,k,h=>by cases h
|⟨a,b,c,d⟩::l,q,k,h=>by
 simp only[map_cons,D.okE,gT.enc,D.okL,D.ok,gT.encs_map,aU]at q;cases h with
 |head=>exact q.1.2.2.2.2.1.1
 |tail _ h=>exact zju q.2 k h
theorem MN(kids:List gT):gU Pg 167 [.one (.sl false 4 (kids.map gT.enc))] (.tup [.agg (w9 kids).1.enc,.one (.bool (w9 kids).2)]):=by
 refine ziA (by simp) λo c hN hp=>?_;have hl:kids.length<=zah:=by
  have:=o.1;simp only[DV.ok,D.ok,aU]at this;exact this.1
 have hk:∀k,k∈kids->k.kids.length<=4611686018427387904:=by
  have:=o.1;simp only[DV.ok,D.ok]at this;intro k hk;have:=zju this.2 k hk;unfold zah at this;exact this
 unfold zah at hl;unfold ZX;simp
 refine fO gy hp (λx:Nat × List (Option gT)=>x.1<=kids.length/\x.2.length=6/\nU ((kids.drop x.1).flatMap iX) x.2=nU (kids.flatMap iX) zh) (λx=>vS kids x.1)
  (λx=>[mJ,vz x.2]) (λx=>kids.length-x.1) (0,zh) [0,1] ⟨by simp,rfl,by simp⟩ (by simp[u6,zh,qI]) λ⟨j,o'⟩ ⟨h1,h3,h2⟩=>?_
 unfold ZV;simp only at h1 h2 h3;simp;apply gM<;>intro h
 ·have hj:j<kids.length:=by simpa using h
  rw[aD hj,flatMap_cons,zg9]at h2;simp[aA hj];have hfin:∀l,iX kids[j]=l->(nU l o').1=false->w9 kids=(.mk 0 (bs []) [] [],false):=λl e hf=>by
   rw[e,hf,aB (by simp)]at h2;unfold w9;rw[<-h2]
  by_cases h7:kids[j].kind=7
  ·have hm:iX kids[j]=kids[j].kids:=by unfold iX;rw[aC h7]
   simp[h7];refine zjt hp kids j false kids[j].kids (hk _ (aR hj)) o' h3 (ms:=[0,1]) (by simp) (λhf T M n e2 e3 m0=>?_) λht T e2 e4 e5 e15 e16 e17=>?_
   ·rw[hfin _ hm hf];simp[e2,e3,m0,gT.enc,gT.encs,encS]
   ·rw[hm,aC ht]at h2;simp[e2,e4,e5,e15,e16,e17];refine fF (j+1,(nU kids[j].kids o').2) [0,1] ⟨by simp only;omega,by simp only;rw[PW];exact h3,h2⟩ (by simp;omega) ?_;simp[e2,e4,e5,e15,e16,e17];exact wI
  ·have hm:iX kids[j]=[kids[j]]:=by unfold iX;rw[aB h7]
   simp[h7];refine zjt hp kids j true [kids[j]] (by simp) o' h3 (ms:=[0,1]) (by simp) (λhf T M n e2 e3 m0=>?_) λht T e2 e4 e5 e15 e16 e17=>?_
   ·rw[hfin _ hm hf];simp[e2,e3,m0,gT.enc,gT.encs,encS]
   ·rw[hm,aC ht]at h2;simp[e2,e4,e5,e15,e16,e17];refine fF (j+1,(nU [kids[j]] o').2) [0,1] ⟨by simp only;omega,by simp only;rw[PW];exact h3,h2⟩ (by simp;omega) ?_;simp[e2,e4,e5,e15,e16,e17];exact wI
 ·have hj:j=kids.length:=by simp at h;omega
  subst hj;rw[aO,flatMap_nil,nU]at h2;have hres:w9 kids=match o'.filterMap id with|[t]=>(t,true)|l=>(.mk 7 (bs []) [] l,decide (0<l.length)):=by
   unfold w9;rw[<-h2]
  rw[hres];clear hres h2;have hle:∀j,((o'.take j).filterMap id).length<=6:=λj=>by
   have h1:=length_filterMap_le id (o'.take j);have h2:=length_take_le j o';rw[bI]at h1;omega
  simp;refine fU [.c 2 3] ?_;have hcut:cut ((u6 o').map AC.d) 0 6=(u6 o').map AC.d:=by unfold cut;simp[h3]
  simp[hcut];refine⟨by omega,?_⟩
  refine fO gy hp (λj:Nat=>j<=6) (λj=>[(43,.c (.d (.int .i64 j))),(42,.ag ((u6 o').map .d)),(11,.c (.ptr 2 0)),(2,.c (.ptr 0 0))])
   (λj=>[mJ,vz o',.box [.d (.int .i64 7),.d (.str (bs [])),.d (.sl true 1 []),.msl 4 3 0 ((o'.take j).filterMap id).length],.arr 4 ((((o'.take j).filterMap id).map gT.enc).map (·.map .d))]) (λj=>6-j) 0 [0,1,2,3] (by simp) (by simp) λj h1=>?_
  unfold ZW;simp;apply gM<;>intro h
  ·have hj:j<6:=by simp at h;omega
   have hjo:j<o'.length:=by omega
   have hgi:(u6 o')[j]?=some (qI o'[j]):=by rw[PU,aA hjo];try rfl
   have hft:=zlU hjo;have hle':=hle j;cases he:o'[j]with
   |none=>
    rw[he]at hgi hft;simp only[qI,bL]at hgi hft;simp[hgi];refine⟨by omega,fU [] ?_⟩;simp;refine fF (j+1) [0,1,2,3] (by omega) (by omega) ?_;rw[hft];simp;exact⟨wI,λx _=>by cases x<;>rfl⟩
   |some t=>
    rw[he]at hgi hft;simp only[qI]at hgi hft;simp[hgi];refine⟨by omega,by omega,by decide,fU [] ?_⟩;simp;refine fF (j+1) [0,1,2,4] (by omega) (by omega) ?_;rw[hft];simp;exact⟨wI,aG (by simp),λx _=>by cases x<;>rfl⟩
  ·have hj:j=6:=by simp at h;omega
   subst hj;have ht6:o'.take 6=o':=aG (by omega);rw[ht6];have hle6:=hle 6;rw[ht6]at hle6;have hex:∀t,t∈o'.filterMap id->∃x,x∈o'/\∃b,x=some b:=λt ht=>by
    rw[mem_filterMap]at ht;obtain⟨a,h1,h2⟩:=ht;exact⟨a,h1,t,h2⟩
   generalize o'.filterMap id=L at*
   rcases L with _|⟨t,_|⟨t',l⟩⟩
   ·simp;exact⟨by decide,by simp[gT.enc,gT.encs,encS]⟩
   ·have hex:=hex t (by simp);simp[hex]<;>(rw[gT.enc_eq];rfl)
   ·have hex:=hex t (by simp);have h1:¬((l.length:Int)+1+1=1):=by omega
    have h2:(0:Int)<(l.length:Int)+1+1:=by omega
    have h3:(l.map gT.enc).take l.length=l.map gT.enc:=aG (by simp);simp[hex,h1,h2,h3];exact⟨by decide,by simp[gT.enc,gT.encs,gT.encs_map,encS]⟩
end Go.Gr.P
