/- Of ours. -/
import Derived.Test.YtlfjlokfciejnaaGreatJ06
set_option maxRecDepth 20000
set_option maxHeartbeats 4000000
set_option linter.unusedVariables false
set_option linter.unusedSectionVars false
set_option linter.unusedSimpArgs false
set_option linter.defProp false
open List renaming length->lN
open Bool renaming true->tT,false->oK
open Option renaming some->sS,none->nN
namespace Go.Gr
open Go.Abs Go.Proofs
def bA(l:o9):fD:=⟨l.toArray⟩
def xE(c:Int):Bool:=decide (97<=c/\c<=122\/65<=c/\c<=90\/c=95)
def rT(c:Int):Bool:=decide (48<=c/\c<=57)
def lY(b:UInt8):Bool:=xE b.toNat
def jG(b:UInt8):Bool:=rT b.toNat
def k?:Bool->List UInt8->Nat
|_,[]=>0
|true,c::l=>k? (decide (c≠10)) l+1
|false,c::l=>if c=35 then k? tT l+1 else if c=32\/c=9\/c=10\/c=13 then k? oK l+1 else 0
def y?(num:Bool):List UInt8->Nat
|[]=>0
|b::l=>if(jG b||(!num&&lY b))=tT then y? num l+1 else 0
def kP:List UInt8->Option (List UInt8 × Nat)
|[]=>nN
|c::l=>if c=34 then sS ([],1)else if c<32 then nN else if c≠92 then(kP l).map λx=>(c::x.1,x.2+1)else
 match l with
 |[]=>nN
 |d::l=>if d=92\/d=34 then(kP l).map λx=>(d::x.1,x.2+2)else if d=110 then(kP l).map λx=>(10::x.1,x.2+2)else if d=116 then(kP l).map λx=>(9::x.1,x.2+2)else nN
def ze:sD:=[[45,62],[61,62],[60,58],[60,60],[60,61],[62,62],[61,61],[43,43]]
def mO:o9:=[40,41,123,125,91,93,44,58,59,61,43,45,42,47,37,38,94,60,124,46]
def CZ(l:o9):Nat:=if(ze.any λt=>decide (l.take 2=t))=tT then 2 else match l with
|[]=>0
|c::_=>if c∈mO then 1 else 0
def xF:List UInt8->Nat->Option Nat
|[],n=>sS n
|c::l,n=>if jG c=tT then xF l (10*n+(c.toNat-48))else nN
def Ei(l:o9):Int × Bool:=
 if lN l=0\/19<lN l\/(l.head?=sS 48/\1<lN l)then(0,oK)else match xF l 0 with
 |none=>(0,oK)
 |some n=>if 9223372036854775807<n then(0,oK)else(n,tT)
def zf(s:fD):Int × Bool:=Ei s.data.toList
def Jc:oN:=[bs [97,110,100],bs [97,110,121],bs [97,115],bs [98,111,111,108],bs [101,108,115,101],bs [101,120,112,111,114,116],bs [102,97,108,115,101],bs [102,110],bs [102,117,110,99,116,105,111,110],bs [105,102],bs [105,109,112,111,114,116],bs [105,110],bs [105,110,116],bs [105,115],bs [108,101,116],bs [110,111,116],bs [110,117,108,108],bs [111,114],bs [112,114,105,110,116],bs [114,101,97,100],bs [114,101,99,111,114,100],bs [115,116,114],bs [116,104,101,110],bs [116,114,117,101],bs [119,105,116,104]]
def Dc(s:fD):Bool:=Jc.any λw=>decide (w=s)
def mP(s:fD):Bool:=match s.data.toList with
|[]=>oK
|c::l=>decide (s.size<=32)&&(!Dc s&&(!jG c&&(c::l).all λb=>lY b||jG b))
structure pK where
 d_:Int
 text:List UInt8
 len:Nat
 e:Int
def kK(e:Int):pK:=⟨0,[],0,e⟩
def x?:o9->pK
|[]=>kK 5
| c::r=>
 if lY c=tT then
  (if 32<y? oK (c::r)then kK 2 else⟨if Dc (bA ((c::r).take (y? oK (c::r))))=tT then 2 else 1,(c::r).take (y? oK (c::r)),y? oK (c::r),0⟩)
 else if jG c=tT then
  (if(Ei ((c::r).take (y? tT (c::r)))).2=tT then⟨3,(c::r).take (y? tT (c::r)),y? tT (c::r),0⟩else kK 3)
 else if c=34 then(match kP r with
  |none=>kK 4
  |some (t,n)=>if 256<lN t then kK 2 else⟨4,t,n+1,0⟩)
 else if CZ (c::r)=0 then kK 5 else⟨5,(c::r).take (CZ (c::r)),CZ (c::r),0⟩
def rJ:List UInt8->Int->Int->Int × Int
|[],a,b=>(a,b)
|c::l,a,b=>if c=10 then rJ l (a+1) 1 else rJ l a (b+1)
structure l? where
 module:Int
 line:Int
 t_:Int
 e:Int
abbrev sW:=List l?
def l?.enc(d:l?):oQ:=[.int .i64 d.module,.int .i64 d.line,.int .i64 d.t_,.int .i64 d.e]
def Qe:l?:=⟨0,0,0,0⟩
def pM:Nat->List UInt8->Int->Int->List Tok->List Tok × l?
|0,_,_,_,ts=>(ts,Qe)
| n+1,l,a,b,ts=>
 let q:=rJ (l.take (k? oK l)) a b;let l':=l.drop (k? oK l)
 if l'=[]then(ts++[⟨0,bs [],q.1,q.2⟩],Qe)
 else
  let t:=x? l';let e:=if t.e=0/\lN ts=8192 then 19 else t.e
  if e≠0 then([],⟨0,q.1,q.2,e⟩)else pM n (l'.drop t.len) q.1 (q.2+t.len) (ts++[⟨t.d_,bA t.text,q.1,q.2⟩])
def kE(s:fD):sF × l?:=if 65536<s.size then([],⟨0,1,1,2⟩)else pM (s.size+1) s.data.toList 1 1 []
variable {s:fD}{e:Int}
structure PS where
  L_:Nat
  deep:Nat
  e:Int
  line:Int
  t_:Int
variable {p:PS}
section
variable (L:List Tok)
def U_(p:PS):Tok:=L.getD p.L_ Ai
def yt(e:Int)(p:PS):PS:=if p.e=0 then {p with e:=e,line:=(U_ L p).line,t_:=(U_ L p).t_}else p
def IR(s:fD)(p:PS):Bool:=decide (p.e=0)&&((decide ((U_ L p).d_=2)||decide ((U_ L p).d_=5))&&decide ((U_ L p).text=s))
def gU(s:fD)(p:PS):Bool × PS:=if IR L s p=tT then(tT,{p with L_:=p.L_+1})else(oK,p)
def iH(s:fD)(p:PS):PS:=if(gU L s p).1=tT then(gU L s p).2 else yt L 7 p
def iG(p:PS):fD × PS:=if p.e=0/\(U_ L p).d_=1 then((U_ L p).text,{p with L_:=p.L_+1})else(bs [],yt L 7 p)
def BQ(p:PS):PS:=if 100<=p.deep then yt L 6 p else p
def iL(p:PS):Bool × PS:=if(BQ L p).e≠0 then(oK,BQ L p)else(tT,{BQ L p with deep:=p.deep+1})
end
section
variable (L:List Tok)
def zg:oN:=[bs [97,110,121],bs [110,117,108,108],bs [98,111,111,108],bs [105,110,116],bs [115,116,114]]
def yK:Nat->List fD->PS->Option (Nat × PS)
 |_,[],_=>nN
 |i,s::l,p=>if(gU L s p).1=tT then sS (i,(gU L s p).2)else yK (i+1) l p
def De(ki:PS->f_ × PS):Nat->List fD->List f_->PS->(List fD × List f_) × PS
 |0,ns,ks,p=>((ns,ks),p)
 | n+1,ns,ks,p=>
   let a:=iG L p;let k:=ki (iH L (bs [58]) a.2);let m:=gU L (bs [44]) k.2
   if m.1=tT then De ki n (ns++[a.1]) (ks++[k.1]) m.2 else((ns++[a.1],ks++[k.1]),m.2)
def Jd(ki:PS->f_ × PS) (p:PS):f_ × PS:=
   if(gU L (bs [40]) p).1=tT then((ki (gU L (bs [40]) p).2).1,iH L (bs [41]) (ki (gU L (bs [40]) p).2).2)
   else if(gU L (bs [123]) p).1=tT then
     (if(gU L (bs [125]) (gU L (bs [123]) p).2).1=tT then(.mk 5 (bs []) [] [],(gU L (bs [125]) (gU L (bs [123]) p).2).2)
     else(.mk 5 (bs []) (De L ki (lN L+1) [] [] (gU L (bs [123]) p).2).1.1 (De L ki (lN L+1) [] [] (gU L (bs [123]) p).2).1.2,iH L (bs [125]) (De L ki (lN L+1) [] [] (gU L (bs [123]) p).2).2))
   else(.mk 8 (iG L p).1 [] [],(iG L p).2)
def um(ki:PS->f_ × PS)(p:PS):f_ × PS:=match yK L 0 zg p with
 |some (i,q)=>(.mk i (bs []) [] [],q)
 |none=>Jd L ki p
def uo(ki:PS->f_ × PS):Nat->List f_->PS->List f_ × PS
 |0,l,p=>(l,p)
 | n +1,l,p=>if(gU L (bs [124]) p).1=tT then
     let t:=um L ki (gU L (bs [124]) p).2
     uo ki n (l++[t.1]) t.2
   else(l,p)
def Qf:oL->f_
 |[t]=>t
 |l=>.mk 7 (bs []) [] l
def zHG{l:oL}(h:lN l≠1):Qf l=.mk 7 (bs []) [] l:=by
 match l,h with
 |[],_=>rfl
 |_::_::_,_=>rfl
def uD(ki:PS->f_ × PS)(p:PS):f_ × PS:=
 let a:=um L ki p;let r:=uo L ki (lN L+1) [a.1] a.2
 (Qf r.1,r.2)
def Je(ki:PS->f_ × PS)(p:PS):f_ × PS:=
 let a:=uD L ki p;let m:=gU L (bs [45,62]) a.2
 if m.1=tT then(.mk 6 (bs []) [] [a.1,(ki m.2).1],(ki m.2).2)else(a.1,m.2)
def xG{α:Type}(x:α × PS):α × PS:=(x.1,{x.2 with deep:=x.2.deep-1})
def yu:Nat->PS->f_ × PS
 |0=>λp=>(C_,p)
 |d+1=>λp=>if(iL L p).1=tT then xG (Je L (yu d) (iL L p).2)else(C_,(iL L p).2)
def rM(ki:PS->f_ × PS)(p:PS):oL × PS:=if(gU L (bs [58]) p).1=tT then([(ki (gU L (bs [58]) p).2).1],(ki (gU L (bs [58]) p).2).2)else([],p)
end
section
variable (L:List Tok)
def jX(p:PS)(k:Int)(t:fD)(n:Int)(ts:oL)(ns:oN)(ks:sJ):o_:=.mk k t n (U_ L p).line (U_ L p).t_ ts ns ks
abbrev vV:=bs [108,101,116]
abbrev Df:=bs [105,102]
abbrev Fh:=bs [116,104,101,110]
abbrev Fj:=bs [101,108,115,101]
abbrev wU:=bs [102,110]
def uq(ki:PS->f_ × PS)(p:PS):(fD × List f_) × PS:=
 let s:=iG L (iH L (bs [40]) p);let a:=rM L ki s.2;let b:=rM L ki (iH L (bs [41]) a.2)
 ((s.1,(if lN a.1=0 then [C_]else a.1)++b.1),b.2)
def C8(ki:PS->f_ × PS) (ex rk:PS->o_ × PS) (p:PS):o_ × PS:=
 if(gU L vV p).1=tT then
   let s:=iG L (gU L vV p).2;let t:=rM L ki s.2;let v:=ex (iH L (bs [61]) t.2);let b:=ex (iH L (bs [59]) v.2)
   (jX L p 5 s.1 0 t.1 [] [v.1,b.1],b.2)
 else if(gU L Df p).1=tT then
   let c:=ex (gU L Df p).2;let a:=ex (iH L Fh c.2);let b:=ex (iH L Fj a.2)
   (jX L p 11 (bs []) 0 [] [] [c.1,a.1,b.1],b.2)
 else if(gU L wU p).1=tT then
   let h:=uq L ki (gU L wU p).2;let b:=ex (iH L (bs [61,62]) h.2)
   (jX L p 6 h.1.1 0 h.1.2 [] [b.1],b.2)
 else rk p
def zh:List fD->PS->Option (fD × PS)
 |[],_=>nN
 |s::l,p=>if(gU L s p).1=tT then sS (s,(gU L s p).2)else zh l p
def jY(rk:PS->o_ × PS) (_t:List fD):Nat->o_->PS->o_ × PS
 |0,a,p=>(a,p)
 | n+1,a,p=>match zh L _t p with
   |none=>(a,p)
   |some (s,q)=>jY rk _t n (jX L p 14 s 0 [] [] [a,(rk q).1]) (rk q).2
def ut:Nat->oN
 |0=>[bs [111,114]]
 |1=>[bs [97,110,100]]
 |3=>[bs [43,43]]
 |4=>[bs [43],bs [45],bs [94]]
 |5=>[bs [42],bs [47],bs [37],bs [38],bs [60,60],bs [62,62]]
 |_=>[]
def zi:oN:=[bs [110,117,108,108],bs [98,111,111,108],bs [105,110,116],bs [115,116,114],bs [114,101,99,111,114,100],bs [102,117,110,99,116,105,111,110]]
def uu(ki:PS->f_ × PS) (rk:PS->o_ × PS) (p:PS):o_ × PS:=
 let a:=rk p
 match zh L [bs [60],bs [60,61],bs [61,61]] a.2 with
 |some (s,q)=>(jX L a.2 14 s 0 [] [] [a.1,(rk q).1],(rk q).2)
 | none=>
   if(gU L (bs [97,115]) a.2).1=tT then
     let t:=ki (gU L (bs [97,115]) a.2).2
     (jX L a.2 13 (bs []) 0 [t.1] [] [a.1],t.2)
   else if(gU L (bs [105,115]) a.2).1=tT then
     match yK L 0 zi (gU L (bs [105,115]) a.2).2 with
     |some (i,q)=>(jX L a.2 12 (bs []) i [] [] [a.1],q)
     |none=>(jX L a.2 12 (bs []) 0 [] [] [a.1],yt L 7 (gU L (bs [105,115]) a.2).2)
   else a
def Fp(un:PS->o_ × PS)(p:PS):o_ × PS:=jY L un (ut 5) (lN L+1) (un p).1 (un p).2
def Fq(un:PS->o_ × PS)(p:PS):o_ × PS:=jY L (Fp L un) (ut 4) (lN L+1) (Fp L un p).1 (Fp L un p).2
def Jf(un:PS->o_ × PS)(p:PS):o_ × PS:=jY L (Fq L un) (ut 3) (lN L+1) (Fq L un p).1 (Fq L un p).2
def Fs(ki:PS->f_ × PS)(un:PS->o_ × PS)(p:PS):o_ × PS:=uu L ki (Jf L un) p
def Fu(ki:PS->f_ × PS)(un:PS->o_ × PS)(p:PS):o_ × PS:=jY L (Fs L ki un) (ut 1) (lN L+1) (Fs L ki un p).1 (Fs L ki un p).2
def Jg(ki:PS->f_ × PS)(un:PS->o_ × PS)(p:PS):o_ × PS:=jY L (Fu L ki un) (ut 0) (lN L+1) (Fu L ki un p).1 (Fu L ki un p).2
def yw(ki:PS->f_ × PS):Nat->List f_->PS->List f_ × PS
 |0,l,p=>(l,p)
 | n+1,l,p=>
   let t:=ki p;let m:=gU L (bs [44]) t.2
   if m.1=tT then yw ki n (l++[t.1]) m.2 else(l++[t.1],iH L (bs [93]) m.2)
def xH(ex:PS->o_ × PS):Nat->List fD->List o_->PS->(List fD × List o_) × PS
 |0,ns,ks,p=>((ns,ks),p)
 | n+1,ns,ks,p=>
   let s:=iG L p;let k:=ex (iH L (bs [58]) s.2);let m:=gU L (bs [44]) k.2
   if m.1=tT then xH ex n (ns++[s.1]) (ks++[k.1]) m.2 else((ns++[s.1],ks++[k.1]),m.2)
abbrev Fv:=bs [119,105,116,104]
def yL(ex:PS->o_ × PS) (q p:PS):o_ × PS:=
 if(gU L (bs [125]) p).1=tT then(jX L q 8 (bs []) 0 [] [] [],(gU L (bs [125]) p).2)
 else if p.e≠0\/(U_ L p).d_≠1\/(L.getD (p.L_+1) Ai).d_≠5\/(L.getD (p.L_+1) Ai).text≠bs [58]then
   let a:=ex p;let s:=iG L (iH L Fv a.2);let b:=ex (iH L (bs [58]) s.2)
   (jX L q 10 s.1 0 [] [] [a.1,b.1],iH L (bs [125]) b.2)
 else
   let r:=xH L ex (lN L+1) [] [] p
   (jX L q 8 (bs []) 0 [] r.1.1 r.1.2,iH L (bs [125]) r.2)
end
section
variable (L:List Tok)
abbrev Fw:=bs [116,114,117,101]
abbrev Fx:=bs [102,97,108,115,101]
abbrev Fy:=bs [110,117,108,108]
abbrev BR:=bs [114,101,97,100]
abbrev Aj:=bs [112,114,105,110,116]
def Jh(s:fD):Int:=(zf s).1
def zk(ki:PS->f_ × PS) (ex:PS->o_ × PS) (p:PS):o_ × PS:=
 if p.e=0/\(U_ L p).d_=3 then(jX L p 0 (bs []) (Jh (U_ L p).text) [] [] [],{p with L_:=p.L_+1})
 else if p.e=0/\(U_ L p).d_=4 then(jX L p 1 (U_ L p).text 0 [] [] [],{p with L_:=p.L_+1})
 else if(gU L Fw p).1=tT then(jX L p 2 (bs []) 1 [] [] [],(gU L Fw p).2)
 else if(gU L Fx p).1=tT then(jX L p 2 (bs []) 0 [] [] [],(gU L Fx p).2)
 else if(gU L Fy p).1=tT then(jX L p 3 (bs []) 0 [] [] [],(gU L Fy p).2)
 else if(gU L BR p).1=tT then(jX L p 18 (bs []) 0 [] [] [],iH L (bs [41]) (iH L (bs [40]) (gU L BR p).2))
 else if(gU L Aj p).1=tT then
   let k:=ex (iH L (bs [40]) (gU L Aj p).2)
   (jX L p 17 (bs []) 0 [] [] [k.1],iH L (bs [41]) k.2)
 else if(gU L (bs [40]) p).1=tT then((ex (gU L (bs [40]) p).2).1,iH L (bs [41]) (ex (gU L (bs [40]) p).2).2)
 else if(gU L (bs [123]) p).1=tT then yL L ex p (gU L (bs [123]) p).2
 else
   let s:=iG L p
   if(gU L (bs [91]) s.2).1=tT then
     let t:=yw L ki (lN L+1) [] (gU L (bs [91]) s.2).2
     (jX L p 19 s.1 0 t.1 [] [],t.2)
   else(jX L p 4 s.1 0 [] [] [],s.2)
def vW(ex:PS->o_ × PS):Nat->o_->PS->o_ × PS
 |0,a,p=>(a,p)
 | n +1,a,p=>
   if(gU L (bs [40]) p).1=tT then
     let b:=ex (gU L (bs [40]) p).2
     vW ex n (jX L p 7 (bs []) 0 [] [] [a,b.1]) (iH L (bs [41]) b.2)
   else if(gU L (bs [46]) p).1=tT then
     let s:=iG L (gU L (bs [46]) p).2
     vW ex n (jX L p 9 s.1 0 [] [] [a]) s.2
   else(a,p)
def Fz(ki:PS->f_ × PS)(ex:PS->o_ × PS)(p:PS):o_ × PS:=
 let a:=zk L ki ex p
 vW L ex (lN L+1) a.1 a.2
abbrev vX:=bs [110,111,116]
def C9(ki:PS->f_ × PS) (ex un:PS->o_ × PS) (p:PS):o_ × PS:=
 if(gU L (bs [45]) p).1=tT then
   let k:=un (gU L (bs [45]) p).2
   (jX L p 16 (bs []) 0 [] [] [k.1],k.2)
 else if(gU L vX p).1=tT then
   let k:=un (gU L vX p).2
   (jX L p 15 (bs []) 0 [] [] [k.1],k.2)
 else Fz L ki ex p
def xI(ki:PS->f_ × PS):Nat->(PS->o_ × PS) × (PS->o_ × PS)
 |0=>(λp=>(uC,p),λp=>(uC,p))
 | d+1=>
   (λp=>if(iL L p).1=tT then xG (C8 L ki (xI ki d).1 (Jg L ki (xI ki d).2) (iL L p).2)else(uC,(iL L p).2),
    λp=>if(iL L p).1=tT then xG (C9 L ki (xI ki d).1 (xI ki d).2 (iL L p).2)else(uC,(iL L p).2))
def xx:PS->f_ × PS:=yu L 102
def IU:PS->o_ × PS:=(xI L (xx L) 102).1
def xJ:Nat->List fD->PS->List fD × PS
 |0,l,p=>(l,p)
 | n+1,l,p=>
   let s:=iG L p;let m:=gU L (bs [44]) s.2
   if m.1=tT then xJ n (l++[s.1]) m.2 else(l++[s.1],m.2)
def BS:Nat->List (fD × f_)->PS->List (fD × f_) × PS
 |0,l,p=>(l,p)
 | n+1,l,p=>
   let s:=iG L p;let t:=if(gU L (bs [60,58]) s.2).1=tT then xx L (gU L (bs [60,58]) s.2).2 else(C_,s.2);let m:=gU L (bs [44]) t.2
   if m.1=tT then BS n (l++[(s.1,t.1)]) m.2 else(l++[(s.1,t.1)],iH L (bs [93]) m.2)
def BU(p:PS):sV × PS:=if(gU L (bs [91]) p).1=tT then BS L (lN L+1) [] (gU L (bs [91]) p).2 else([],p)
structure iW where
  from_:fD
  a_:List fD
  line:Int
  t_:Int
abbrev qE:=List iW
structure P? where
  name:fD
  exp:Bool
  vars:List (fD × f_)
  param:fD
  types:List f_
  body:o_
  line:Int
  t_:Int
abbrev qF:=List P?
structure X? where
  z?:List iW
  T_:List P?
abbrev sP:=List X?
abbrev zl:=bs [105,109,112,111,114,116]
abbrev Dg:=bs [101,120,112,111,114,116]
def zm:Nat->List iW->PS->List iW × PS
 |0,l,p=>(l,p)
 | n +1,l,p=>if p.e=0/\(gU L zl p).1=tT then
     let s:=iG L (gU L zl p).2;let ns:=xJ L (lN L+1) [] (iH L (bs [58]) s.2)
     zm n (l++[⟨s.1,ns.1,(U_ L p).line,(U_ L p).t_⟩]) (iH L (bs [59]) ns.2)
   else(l,p)
def uw(p:PS):P? × PS:=
 let x:=gU L Dg p;let s:=iG L (iH L wU x.2);let v:=BU L s.2;let h:=uq L (xx L) v.2;let b:=IU L (iH L (bs [61]) h.2)
 (⟨s.1,x.1,v.1,h.1.1,if lN h.1.2=1 then h.1.2++[C_]else h.1.2,b.1,(U_ L x.2).line,(U_ L x.2).t_⟩,iH L (bs [59]) b.2)
def uy:Nat->List P?->PS->List P? × PS
 |0,l,p=>(l,p)
 |n+1,l,p=>if p.e=0/\(U_ L p).d_≠0 then uy n (l++[(uw L p).1]) (uw L p).2 else(l,p)
def Ej(p:PS):X? × PS:=
 let i:=zm L (lN L+1) [] p;let d:=uy L (lN L+1) [] i.2
 (⟨i.1,d.1⟩,d.2)
end
structure C? (L:List Tok):Prop where
  pos:0<lN L
  mid:∀i,i<lN L->(L.getD i Ai).d_≠0->i+1<lN L
structure Tm (L:List Tok) (p q:PS):Prop where
  deep:q.deep=p.deep
  le:p.L_<=q.L_
  lt:q.L_<lN L
  bad:p.e≠0->q.e≠0
section
variable {L:List Tok}
def Tm.refl(h:p.L_<lN L):Tm L p p:=⟨rfl,aJ _,h,id⟩
def Tm.trans{q r:PS}(h:Tm L p q)(k:Tm L q r):Tm L p r:=⟨k.deep.trans h.deep,aX h.le k.le,k.lt,λx=>k.bad (h.bad x)⟩
def IV(h:p.L_<lN L):Tm L p (yt L e p):=by
 unfold yt;split
 · rename_i q;exact⟨rfl,aJ _,h,λx=>absurd q x⟩
 · exact Tm.refl h
def Ji(h:e≠0):(yt L e p).e≠0:=by
 unfold yt;split
 · exact h
 · rename_i q;exact q
def iB(hL:C? L)(h:p.L_<lN L):Tm L p (gU L s p).2:=by
 unfold gU;split
 · rename_i q;unfold IR U_ at q;simp only[aG,cz,aI]at q;refine⟨rfl,oC,hL.mid _ h oM,λx=>absurd q.1 x⟩
 · exact Tm.refl h
def X_(h:(gU L s p).1=tT):(gU L s p).2.L_=p.L_+1/\p.e=0:=by
 unfold gU at h⊢;split
 · rename_i q;unfold IR at q;simp only[aG,aI]at q;exact⟨rfl,q.1⟩
 · rename_i q;rw[aB q]at h;cases h
def kH(h:¬(gU L s p).1=tT):(gU L s p).2=p:=by
 unfold gU at h⊢;split
 · rename_i q;rw[aC q]at h;exact absurd rfl h
 · rfl
def iF(hL:C? L)(h:p.L_<lN L):Tm L p (iH L s p):=by
 unfold iH;split
 · exact iB hL h
 · exact IV h
def zJx:(iH L s p).e≠0\/(iH L s p).L_=p.L_+1:=by
 unfold iH;split
 · rename_i q;exact .inr (X_ q).1
 · exact .inl (Ji oD)
def kX(hL:C? L)(h:p.L_<lN L):Tm L p (iG L p).2:=by
 unfold iG;split
 · rename_i q;exact⟨rfl,oC,hL.mid _ h (by unfold U_ at q;omega),λx=>absurd q.1 x⟩
 · exact IV h
def M4(h:p.L_<lN L):Tm L p (BQ L p):=by
 unfold BQ;split
 · exact IV h
 · exact Tm.refl h
end
variable {ki:PS->f_ × PS}{ex rk:PS->o_ × PS}{α:Type}
section
variable {L:List Tok}
def y_(L:sF)(f:PS->α × PS):Prop:=∀p,p.L_<lN L->Tm L p (f p).2
def Jj(hL:C? L):∀(l:List fD) (i:Nat) {p q:PS} {k:Nat},p.L_<lN L->yK L i l p=sS (k,q)->Tm L p q/\p.L_<q.L_/\p.e=0/\k<i+lN l
|[],_,_,_,_,_,h=>by rw[yK]at h;cases h
| s::l,i,p,q,k,hp,h=>by
 rw[yK]at h;split at h
 next c=>
  simp only[aU,au]at h;obtain⟨rfl,rfl⟩:=h;have:=X_ c;exact⟨iB hL hp,oM,this.2,oC⟩
 .have:=Jj hL l (i+1) hp h;simp only[List.length_cons];exact⟨this.1,this.2.1,this.2.2.1,oM⟩
def GA(hL:C? L):∀(l:List fD) {p q:PS} {k:fD},p.L_<lN L->zh L l p=sS (k,q)->Tm L p q/\p.L_<q.L_/\p.e=0
|[],_,_,_,_,h=>by rw[zh]at h;cases h
| s::l,p,q,k,hp,h=>by
 rw[zh]at h;split at h
 next c=>
  simp only[aU,au]at h;obtain⟨rfl,rfl⟩:=h;have:=X_ c;exact⟨iB hL hp,oM,this.2⟩
 .exact GA hL l hp h
def zva(hL:C? L)(hk:y_ L ki):∀(n:Nat) (ns:List fD) (ks:List f_),y_ L (De L ki n ns ks)
|0,ns,ks,p,hp=>Tm.refl hp
|n+1,ns,ks,p,hp=>by
 have h1:=kX hL hp;have h2:=h1.trans (iF hL h1.lt (s:=bs [58]));have h3:=h2.trans (hk _ h2.lt);have h4:=h3.trans (iB hL h3.lt (s:=bs [44]));rw[De];split
 .exact h4.trans (zva hL hk n _ _ _ h4.lt)
 .exact h4
def zGX(hL:C? L)(hk:y_ L ki):y_ L (Jd L ki):=λp hp=>by
 unfold Jd;by_cases c1:(gU L (bs [40]) p).1=tT
 .rw[aC c1];have h1:=iB hL hp (s:=bs [40]);have h2:=h1.trans (hk _ h1.lt);exact h2.trans (iF hL h2.lt)
 rw[aB c1];by_cases c2:(gU L (bs [123]) p).1=tT
 .rw[aC c2];have h1:=iB hL hp (s:=bs [123]);by_cases c3:(gU L (bs [125]) (gU L (bs [123]) p).2).1=tT
  .rw[aC c3];exact h1.trans (iB hL h1.lt)
  .rw[aB c3];have h2:=h1.trans (zva hL hk (lN L+1) [] [] _ h1.lt);exact h2.trans (iF hL h2.lt)
 rw[aB c2];exact kX hL hp
def Jk(hL:C? L)(hk:y_ L ki):y_ L (um L ki):=λp hp=>by
 unfold um;cases e:yK L 0 zg p with
 |some x=>exact(Jj hL _ _ hp e).1
 |none=>exact zGX hL hk p hp
def zAH(hL:C? L)(hk:y_ L ki):∀(n:Nat) (l:List f_),y_ L (uo L ki n l)
|0,l,p,hp=>Tm.refl hp
| n+1,l,p,hp=>by
 rw[uo];split
 .have h1:=iB hL hp (s:=bs [124]);have h2:=h1.trans (Jk hL hk _ h1.lt);exact h2.trans (zAH hL hk n _ _ h2.lt)
 .exact Tm.refl hp
def zEo(hL:C? L)(hk:y_ L ki):y_ L (uD L ki):=λp hp=>by
 have h1:=Jk hL hk p hp;unfold uD;exact h1.trans (zAH hL hk (lN L+1) _ _ h1.lt)
def M5(h:¬(iL L p).1=tT):(iL L p).2=BQ L p:=by
 unfold iL at h⊢;split
 .rfl
 next q=>rw[aB q]at h;exact absurd rfl h
def Ca(h:(iL L p).1=tT):(iL L p).2={p with deep:=p.deep+1}/\p.deep<100/\p.e=0:=by
 unfold iL at h⊢;split
 next q=>rw[aC q]at h;cases h
 next q=>
  have hd:p.deep<100:=by
   rcases aY p.deep 100 with r|r
   .exact r
   .exfalso;apply q;unfold BQ;rw[aC r];exact Ji oD
  have e:BQ L p=p:=by unfold BQ;rw[aB oM]
  rw[e]at q⊢;exact⟨rfl,hd,uM q⟩
def Qg{x:α × PS}(h:(iL L p).1=tT)(hp:p.L_<lN L)(k:Tm L (iL L p).2 x.2):Tm L p (xG x).2:=by
 let⟨e,_,h0⟩:=Ca h;rw[e]at k;have hd:=k.deep;simp only at hd;exact⟨by simp only[xG];omega,k.le,k.lt,λx=>absurd h0 x⟩
def zGY(hL:C? L)(hk:y_ L ki):y_ L (Je L ki):=λp hp=>by
 have h1:=zEo hL hk p hp;have h2:=h1.trans (iB hL h1.lt (s:=bs [45,62]));unfold Je;by_cases c2:(gU L (bs [45,62]) (uD L ki p).2).1=tT
 .show Tm L p (if(gU L (bs [45,62]) (uD L ki p).2).1=tT then _ else _:f_ × PS).2;rw[aC c2];exact h2.trans (hk _ h2.lt)
 .show Tm L p (if(gU L (bs [45,62]) (uD L ki p).2).1=tT then _ else _:f_ × PS).2;rw[aB c2];exact h2
def Qh(hL:C? L)(d:Nat):y_ L (yu L d):=by
 induction d with
 |zero=>exactλp hp=>Tm.refl hp
 | succ d ih=>
  intro p hp;rw[yu];show Tm L p (if(iL L p).1=tT then _ else _:f_ × PS).2;by_cases c:(iL L p).1=tT
  .rw[aC c];have _C:(iL L p).2.L_<lN L:=by rw[(Ca c).1];exact hp
   exact Qg c hp (zGY hL ih _ _C)
  .rw[aB c,M5 c];exact M4 hp
def Cb(hL:C? L)(hk:y_ L ki):y_ L (rM L ki):=λp hp=>by
 unfold rM;split
 .have h1:=iB hL hp (s:=bs [58]);exact h1.trans (hk _ h1.lt)
 .exact Tm.refl hp
def El(hL:C? L)(hk:y_ L ki):y_ L (uq L ki):=λp hp=>by
 unfold uq;have h1:=iF hL hp (s:=bs [40]);have h2:=h1.trans (kX hL h1.lt);have h3:=h2.trans (Cb hL hk _ h2.lt);have h4:=h3.trans (iF hL h3.lt (s:=bs [41]));exact h4.trans (Cb hL hk _ h4.lt)
def Qi(hL:C? L)(hk:y_ L ki)(he:y_ L ex)(hr:y_ L rk):y_ L (C8 L ki ex rk):=λp hp=>by
 unfold C8;split
 .have h1:=iB hL hp (s:=vV);have h2:=h1.trans (kX hL h1.lt);have h3:=h2.trans (Cb hL hk _ h2.lt);have h4:=h3.trans (iF hL h3.lt (s:=bs [61]));have h5:=h4.trans (he _ h4.lt);have h6:=h5.trans (iF hL h5.lt (s:=bs [59]));exact h6.trans (he _ h6.lt)
 .split
  .have h1:=iB hL hp (s:=Df);have h2:=h1.trans (he _ h1.lt);have h3:=h2.trans (iF hL h2.lt (s:=Fh));have h4:=h3.trans (he _ h3.lt);have h5:=h4.trans (iF hL h4.lt (s:=Fj));exact h5.trans (he _ h5.lt)
  .split
   .have h1:=iB hL hp (s:=wU);have h2:=h1.trans (El hL hk _ h1.lt);have h3:=h2.trans (iF hL h2.lt (s:=bs [61,62]));exact h3.trans (he _ h3.lt)
   .exact hr p hp
def IW(hL:C? L)(hr:y_ L rk)(_t:List fD):∀(n:Nat) (a:o_),y_ L (jY L rk _t n a)
|0,a,p,hp=>Tm.refl hp
| n+1,a,p,hp=>by
 rw[jY];split
 .exact Tm.refl hp
 next s q h=>
  have h1:=(GA hL _ hp h).1;have h2:=h1.trans (hr _ h1.lt);exact h2.trans (IW hL hr _t n _ _ h2.lt)
def zKg(hL:C? L)(hk:y_ L ki)(hr:y_ L rk):y_ L (uu L ki rk):=λp hp=>by
 have h0:=hr p hp;unfold uu;simp only;split
 next s q h=>
  have h1:=h0.trans (GA hL _ h0.lt h).1;exact h1.trans (hr _ h1.lt)
 .split
  .have h1:=h0.trans (iB hL h0.lt (s:=bs [97,115]));exact h1.trans (hk _ h1.lt)
  .split
   .have h1:=h0.trans (iB hL h0.lt (s:=bs [105,115]));split
    next i q h=>
     exact h1.trans (Jj hL _ _ h1.lt h).1
    .exact h1.trans (IV h1.lt)
   .exact h0
def Jl(hL:C? L){un:PS->o_ × PS}(hk:y_ L ki)(hu:y_ L un):y_ L (Fp L un)/\y_ L (Fq L un)/\y_ L (Jf L un)/\y_ L (Fs L ki un)/\y_ L (Fu L ki un)/\y_ L (Jg L ki un):=by
 have h5:y_ L (Fp L un):=λp hp=>(hu p hp).trans (IW hL hu _ _ _ _ (hu p hp).lt);have h4:y_ L (Fq L un):=λp hp=>(h5 p hp).trans (IW hL h5 _ _ _ _ (h5 p hp).lt);have h3:y_ L (Jf L un):=λp hp=>(h4 p hp).trans (IW hL h4 _ _ _ _ (h4 p hp).lt);have h2:y_ L (Fs L ki un):=zKg hL hk h3;have h1:y_ L (Fu L ki un):=λp hp=>(h2 p hp).trans (IW hL h2 _ _ _ _ (h2 p hp).lt);have h0:y_ L (Jg L ki un):=λp hp=>(h1 p hp).trans (IW hL h1 _ _ _ _ (h1 p hp).lt);exact⟨h5,h4,h3,h2,h1,h0⟩
def Qj(hL:C? L)(hk:y_ L ki):∀(n:Nat) (l:List f_),y_ L (yw L ki n l)
|0,l,p,hp=>Tm.refl hp
|n+1,l,p,hp=>by
 have h1:=hk p hp;have h2:=h1.trans (iB hL h1.lt (s:=bs [44]));rw[yw];split
 .exact h2.trans (Qj hL hk n _ _ h2.lt)
 .exact h2.trans (iF hL h2.lt)
def Jm(hL:C? L)(he:y_ L ex):∀(n:Nat) (ns:List fD) (ks:List o_),y_ L (xH L ex n ns ks)
|0,ns,ks,p,hp=>Tm.refl hp
|n+1,ns,ks,p,hp=>by
 have h1:=kX hL hp;have h2:=h1.trans (iF hL h1.lt (s:=bs [58]));have h3:=h2.trans (he _ h2.lt);have h4:=h3.trans (iB hL h3.lt (s:=bs [44]));rw[xH];split
 .exact h4.trans (Jm hL he n _ _ _ h4.lt)
 .exact h4
def zEp(hL:C? L)(he:y_ L ex)(q:PS):y_ L (yL L ex q):=λp hp=>by
 unfold yL;split
 .exact iB hL hp
 .split
  .have h1:=he p hp;have h2:=h1.trans (iF hL h1.lt (s:=Fv));have h3:=h2.trans (kX hL h2.lt);have h4:=h3.trans (iF hL h3.lt (s:=bs [58]));have h5:=h4.trans (he _ h4.lt);exact h5.trans (iF hL h5.lt)
  .have h1:=Jm hL he (lN L+1) [] [] p hp;exact h1.trans (iF hL h1.lt)
def zEq(hL:C? L)(hp:p.L_<lN L)(h:p.e=0/\(U_ L p).d_≠0):Tm L p {p with L_:=p.L_+1}:=
⟨rfl,oC,hL.mid _ hp h.2,λx=>absurd h.1 x⟩
def M6(hL:C? L)(hk:y_ L ki)(he:y_ L ex):y_ L (zk L ki ex):=λp hp=>by
 unfold zk;by_cases c1:p.e=0/\(U_ L p).d_=3
 .rw[aC c1];exact zEq hL hp ⟨c1.1,oM⟩
 rw[aB c1];by_cases c2:p.e=0/\(U_ L p).d_=4
 .rw[aC c2];exact zEq hL hp ⟨c2.1,oM⟩
 rw[aB c2];by_cases c3:(gU L Fw p).1=tT
 .rw[aC c3];exact iB hL hp
 rw[aB c3];by_cases c4:(gU L Fx p).1=tT
 .rw[aC c4];exact iB hL hp
 rw[aB c4];by_cases c5:(gU L Fy p).1=tT
 .rw[aC c5];exact iB hL hp
 rw[aB c5];by_cases c6:(gU L BR p).1=tT
 .rw[aC c6];have h1:=iB hL hp (s:=BR);have h2:=h1.trans (iF hL h1.lt (s:=bs [40]));exact h2.trans (iF hL h2.lt)
 rw[aB c6];by_cases c7:(gU L Aj p).1=tT
 .rw[aC c7];have h1:=iB hL hp (s:=Aj);have h2:=h1.trans (iF hL h1.lt (s:=bs [40]));have h3:=h2.trans (he _ h2.lt);exact h3.trans (iF hL h3.lt)
 rw[aB c7];by_cases c8:(gU L (bs [40]) p).1=tT
 .rw[aC c8];have h1:=iB hL hp (s:=bs [40]);have h2:=h1.trans (he _ h1.lt);exact h2.trans (iF hL h2.lt)
 rw[aB c8];by_cases c9:(gU L (bs [123]) p).1=tT
 .rw[aC c9];have h1:=iB hL hp (s:=bs [123]);exact h1.trans (zEp hL he p _ h1.lt)
 rw[aB c9];have h1:=kX hL hp;by_cases c10:(gU L (bs [91]) (iG L p).2).1=tT
 .have h2:=h1.trans (iB hL h1.lt (s:=bs [91]));have h3:=h2.trans (Qj hL hk (lN L+1) [] _ h2.lt);show Tm L p (if(gU L (bs [91]) (iG L p).2).1=tT then _ else _:o_ × PS).2;rw[aC c10];exact h3
 .show Tm L p (if(gU L (bs [91]) (iG L p).2).1=tT then _ else _:o_ × PS).2;rw[aB c10];exact h1
def Qk(hL:C? L)(he:y_ L ex):∀(n:Nat) (a:o_),y_ L (vW L ex n a)
|0,a,p,hp=>Tm.refl hp
| n+1,a,p,hp=>by
 rw[vW];split
 .have h1:=iB hL hp (s:=bs [40]);have h2:=h1.trans (he _ h1.lt);have h3:=h2.trans (iF hL h2.lt (s:=bs [41]));exact h3.trans (Qk hL he n _ _ h3.lt)
 .split
  .have h1:=iB hL hp (s:=bs [46]);have h2:=h1.trans (kX hL h1.lt);exact h2.trans (Qk hL he n _ _ h2.lt)
  .exact Tm.refl hp
def zAI(hL:C? L)(hk:y_ L ki)(he:y_ L ex):y_ L (Fz L ki ex):=λp hp=>by
 have h1:=M6 hL hk he p hp;unfold Fz;exact h1.trans (Qk hL he _ _ _ h1.lt)
def zGZ(hL:C? L){un:PS->o_ × PS}(hk:y_ L ki)(he:y_ L ex)(hu:y_ L un):y_ L (C9 L ki ex un):=λp hp=>by
 unfold C9;split
 .have h1:=iB hL hp (s:=bs [45]);exact h1.trans (hu _ h1.lt)
 .split
  .have h1:=iB hL hp (s:=vX);exact h1.trans (hu _ h1.lt)
  .exact zAI hL hk he p hp
def Jn(hL:C? L)(hk:y_ L ki)(d:Nat):y_ L (xI L ki d).1/\y_ L (xI L ki d).2:=by
 induction d with
 |zero=>exact⟨λp hp=>Tm.refl hp,λp hp=>Tm.refl hp⟩
 | succ d ih=>
  rw[xI];refine⟨λp hp=>?_,λp hp=>?_⟩
  .show Tm L p (if(iL L p).1=tT then _ else _:o_ × PS).2;by_cases c:(iL L p).1=tT
   .rw[aC c];have _C:(iL L p).2.L_<lN L:=by rw[(Ca c).1];exact hp
    exact Qg c hp (Qi hL hk ih.1 (Jl hL hk ih.2).2.2.2.2.2 _ _C)
   .rw[aB c,M5 c];exact M4 hp
  .show Tm L p (if(iL L p).1=tT then _ else _:o_ × PS).2;by_cases c:(iL L p).1=tT
   .rw[aC c];have _C:(iL L p).2.L_<lN L:=by rw[(Ca c).1];exact hp
    exact Qg c hp (zGZ hL hk ih.1 ih.2 _ _C)
   .rw[aB c,M5 c];exact M4 hp
end
def lK{ts:o6}{b:A_}(h:lN ts=[b].length):∃t,ts=[t]:=by
 match ts,h with
 |[t],_=>exact⟨t,rfl⟩
abbrev ic(L:sF)(p:PS):A_:=.box [.d (.sl oK 4 (L.map Tok.enc)),.d (.int .i64 p.L_),.d (.int .i64 p.deep),.d (.int .i64 p.e),.d (.int .i64 p.line),.d (.int .i64 p.t_)]
section
variable {L:List Tok}
def Cc{p:PS}(h:p.L_<lN L):L[p.L_]?=sS (U_ L p):=by
 unfold U_;rw[aH,aA h];try rfl
def Jo(e:Int)(p:PS)(h:p.L_<lN L):q_ Pg 149 [.c (.ptr 0 0),.c (.d (.int .i64 e))] [ic L p] (.a? []) [ic L (yt L e p)]:=by
 refine zBL mD λts _e ok hb c hN hp=>?_;obtain⟨t,rfl⟩:=lK _e;have hg:=Cc h;unfold Xt yt;simp;apply gM<;>intro h0
 .have h0:p.e=0:=uM h0;rw[aC h0];simp[hg];refine oG ?_;exact fJ [0] [1]
 .have h0:¬p.e=0:=uM h0;rw[aB h0];exact fJ [0] [1]
def zGP(s:fD)(p:PS)(h:p.L_<lN L):q_ Pg 179 [.c (.ptr 0 0),.c (.d (.str s))] [ic L p] (.c (.d (.bool (IR L s p)))) [ic L p]:=by
 refine zBM mD λts _e ok hb c hN hp=>?_;obtain⟨t,rfl⟩:=lK _e;have hg:=Cc h;unfold Xu IR;generalize U_ L p=T at*
 by_cases h0:p.e=0<;>by_cases h2:T.d_=2<;>by_cases h5:T.d_=5<;>simp[hg,h0,h2,h5];all_goals (refine oG ?_)
 all_goals exact fK [0] [1] (by simp[h0,h2,h5])
def kY(s:fD)(p:PS)(h:p.L_<lN L)(hl:lN L<=10000):q_ Pg 142 [.c (.ptr 0 0),.c (.d (.str s))] [ic L p] (.c (.d (.bool (gU L s p).1))) [ic L (gU L s p).2]:=by
 refine zBN mD λts _e ok hb c hN hp=>?_;obtain⟨t,rfl⟩:=lK _e;have hs:=zGP s p h;unfold Xv gU;generalize IR L s p=b at*
 simp;apply gN [0] hs;cases b with
 |true=>
  simp;exact fK [0] [1] (by simp;exact wI)
 |false=>
  simp;exact fJ [0] [1]
def nM(hL:C? L)(s:fD)(p:PS)(h:p.L_<lN L)(hl:lN L<=10000):q_ Pg 144 [.c (.ptr 0 0),.c (.d (.str s))] [ic L p] (.a? []) [ic L (iH L s p)]:=by
 refine zBO mD λts _e ok hb c hN hp=>?_;obtain⟨t,rfl⟩:=lK _e;have hs:=kY s p h hl;unfold Xw iH;by_cases q:(gU L s p).1=tT
 .rw[aC q];rw[q]at hs;simp;apply gN [0] hs;simp;exact fJ [0] [1]
 .rw[aB q];rw[kH q]at hs;rw[aT]at q;rw[q]at hs;have hf:=Jo (L:=L) 7 p h;simp;apply gN [0] hs;simp;apply gN [0] hf;simp;exact fJ [0] [1]
def zo(p:PS)(h:p.L_<lN L)(hl:lN L<=10000):q_ Pg 143 [.c (.ptr 0 0)] [ic L p] (.c (.d (.str (iG L p).1))) [ic L (iG L p).2]:=by
 refine zBP mD λts _e ok hb c hN hp=>?_;obtain⟨t,rfl⟩:=lK _e;have hg:=Cc h;have hf:=Jo (L:=L) 7 p h;unfold Xx iG;generalize U_ L p=T at*
 by_cases h0:p.e=0<;>by_cases h1:T.d_=1<;>simp[hg,h0,h1]
 .refine oG ?_;exact fK [0] [1] (by simp;exact wI)
 all_goals
  refine oG ?_;refine gN [0] hf ?_;simp;exact fK [0] [1] (by simp[h0,h1])
def Ql(p:PS)(h:p.L_<lN L)(hd:p.deep<=1000):q_ Pg 182 [.c (.ptr 0 0)] [ic L p] (.c (.d (.bool (iL L p).1))) [ic L (iL L p).2]:=by
 refine zzm mD λts _e ok hb c hN hp=>?_;obtain⟨t,rfl⟩:=lK _e;have hf:=Jo (L:=L) 6 p h;have hfd:(yt L 6 p).deep=p.deep:=(IV h).deep;have hff:(yt L 6 p).e≠0:=Ji oD;unfold Xy iL BQ;by_cases h1:100<=p.deep
 .have h1':(100:Int)<=p.deep:=oM;rw[aC h1,aC hff];simp[h1'];apply gN [0] hf;simp[hff];exact fJ [0] [1]
 .have h1':¬(100:Int)<=p.deep:=oM;rw[aB h1];by_cases h0:p.e=0
  .rw[aB (by simp[h0])];simp[h1',h0];exact fK [0] [1] (by simp;exact wI)
  .rw[aC h0];simp[h1',h0];exact fJ [0] [1]
end
end Go.Gr
namespace Go.Gr
open Go.Abs Go.Proofs List
variable {ki:PS->f_ × PS}{d:Nat}
@[simp] theorem zKW{α:Type}(f:Nat->Nat)(g:α->oQ):AC.b? f∘((λx=>List.map AC.d x)∘g)=(λx=>List.map AC.d x)∘g:=by funext x;simp
@[simp] theorem zwK(a b:oN):encS (a++b)=encS a++encS b:=by simp[encS]
@[simp] theorem zwL(s:fD):encS [s]=[[.str s]]:=rfl
@[simp] theorem zL0:encS []=[]:=rfl
theorem IX:∀l:oN,D.O_ (encS l)=encS l
|[]=>rfl
|s::l=>by
 have ih:=IX l;simp only[encS,map_cons,D.O_,D.W_,D.K_]at ih⊢;rw[ih]
mutual
theorem f_.W_:∀t:f_,D.W_ t.enc=t.enc
|.mk k n s l=>by
 simp only[f_.enc,D.W_,D.K_,IX,f_.O_ l]
theorem f_.O_:∀l:List f_,D.O_ (f_.j? l)=f_.j? l
|[]=>rfl
|t::l=>by simp only[f_.j?,D.O_,f_.W_ t,f_.O_ l]
end
@[simp] theorem Qm(l:oL):D.O_ (l.map f_.enc)=l.map f_.enc:=by rw[<-f_.q?];exact f_.O_ l
def zwN:∀l:List D,(l.map AC.d).map AC.K_=(D.W_ l).map .d
|[]=>rfl
|d::l=>by simp only[map_cons,zwN l,D.W_];rfl
attribute [simp] AV.K_ AC.K_ D.K_ D.O_ D.W_ f_.W_ IX f_.O_
abbrev GD:A_:=.box [.d (.int .i64 0),.d (.str (bs [])),.d (.sl tT 1 []),.d (.sl tT 4 [])]
def rU(L:sF)(d:Nat)(ki:PS->f_ × PS):Prop:=∀p:PS,p.L_<lN L->p.deep=d->q_ Pg 180 [.c (.ptr 0 0)] [ic L p] (.ag ((ki p).1.enc.map .d)) [ic L (ki p).2]
section
variable {L:List Tok}
theorem zwO(hL:C? L)(hl:lN L<=10000)(hk:y_ L ki)(Hk:rU L d ki)(p:PS)(h:p.L_<lN L)(hd:p.deep=d):
  q_ Pg 214 [.c (.ptr 0 0)] [ic L p] (.ag ((um L ki p).1.enc.map .d)) [ic L (um L ki p).2]:=by
 refine zBR mD λts _e ok hb c hN hp=>?_;obtain⟨t,rfl⟩:=lK _e;have hR:um L ki p=um L ki p:=rfl;generalize hR':um L ki p=R at*
 simp[YE];refine fM gm hp (λj:Nat=>j<=5/\yK L j (zg.drop j) p=yK L 0 zg p) (λj=>[(4,.c (.d (.int .i64 j))),(3,.c (.d (.sl tT 1 (encS zg)))),(0,.c (.ptr 0 0)),(2,.c (.ptr 2 0))]) (λj=>[ic L p,.G_ t 0,GD]) (λj=>5-j) 0 [0,1,2] ⟨oC,rfl⟩ (by simp[encS,zg]) λj ⟨h1,h2⟩=>?_;unfold YC;have hbl:lN zg=5:=rfl;simp[hbl];apply gM<;>intro h5
 .have hj:j<lN zg:=oI h5;have _q:j<5:=oM;rw[aF hj,yK]at h2;have hg:zg[j]?=sS zg[j]:=aA hj;have ht:=kY zg[j] p h hl;generalize zg[j]=s at*
  simp[hg];apply gN [0] ht;by_cases q:(gU L s p).1=tT
  .rw[aC q]at h2;have hr:R=(.mk j (bs []) [] [],(gU L s p).2):=by rw[<-hR'];unfold um;rw[<-h2]
   rw[hr];simp[q];exact fH [0] [1] (by simp[f_.enc,f_.j?,encS])
  .rw[aB q]at h2;rw[kH q];rw[aT]at q;simp[q];apply fE (j+1) [0,1,2] ⟨oM,h2⟩ oM;simp;exact wI
 .have hj:j=5:=oI h5;subst hj;have h2:yK L 0 zg p=nN:=by rw[<-h2];try rfl
  have ht:=kY (bs [40]) p h hl;have hr:R=Jd L ki p:=by rw[<-hR'];unfold um;rw[h2]
  rw[hr];simp[Jd];apply gN [0] ht;by_cases q1:(gU L (bs [40]) p).1=tT
  .have t1:=iB hL h (s:=bs [40]);have t2:=t1.trans (hk _ t1.lt);have h3:=Hk _ t1.lt (by rw[t1.deep,hd]);have h4:=nM hL (bs [41]) _ t2.lt hl;rw[aC q1];simp[q1];apply gN [0] h3;simp;apply gN [0] h4;simp;exact fJ [0] [1]
  .rw [aB q1,kH q1];rw[aT]at q1;have h3:=kY (bs [123]) p h hl;simp[q1];apply gN [0] h3;by_cases q2:(gU L (bs [123]) p).1=tT
   .rw [aC q2];have t1:=iB hL h (s:=bs [123]);have h4:=kY (bs [125]) _ t1.lt hl;generalize (gU L (bs [123]) p).2=p1 at*
    simp[q2];apply fT [.c 3 2,.c 3 3];simp;apply gN [0] h4;by_cases q3:(gU L (bs [125]) p1).1=tT
    .rw[aC q3];simp[q3];apply fQ [4,5];simp[iE];exact fH [0] [1] (by simp[f_.enc,f_.j?,encS])
    .rw[aB q3,kH q3];rw[aT]at q3;simp[q3];let⟨F0,_y⟩:=oJ (De L ki (lN L+1) [] [] p1);rw[_y];have hd1:p1.deep=d:=by rw[t1.deep,hd]
     refine fM gm hp (λx:Nat × List fD × List f_ × PS=>De L ki x.1 x.2.1 x.2.2.1 x.2.2.2=F0/\Tm L p1 x.2.2.2/\lN L<x.1+x.2.2.2.L_/\lN x.2.1=lN x.2.2.1/\lN x.2.1<=x.2.2.2.L_)
      (λx=>[(0,.c (.ptr 0 0)),(2,.c (.ptr 2 0)),(8,.c (.ptr 3 0))])
      (λx=>[ic L x.2.2.2,.G_ t 0,GD,.box [.d (.int .i64 5),.d (.str (bs [])),.x_ 1 4 0 (lN x.2.1),.x_ 4 5 0 (lN x.2.2.1)],.arr 1 ((encS x.2.1).map (·.map .d)),.arr 4 ((x.2.2.1.map f_.enc).map (·.map .d))])
      (λx=>x.1) (lN L+1,[],[],p1) [0,1,2,3,4,5] ⟨_y,Tm.refl t1.lt,qM,rfl,oC⟩ (by simp[encS]) λ⟨n,ns,ks,q⟩ ⟨i1,i2,i3,i4,i5⟩=>?_
     unfold YD;simp only at i1 i2 i4 i5;have i3:lN L<n+q.L_:=i3;have _k:=i2.lt;obtain⟨n,rfl⟩:∃m,n=m+1:=⟨n-1,oM⟩
     rw[De]at i1;have e1:=kX hL _k;have e2:=e1.trans (iF hL e1.lt (s:=bs [58]));have e3:=e2.trans (hk _ e2.lt);have e4:=e3.trans (iB hL e3.lt (s:=bs [44]));have c1:=zo q _k hl;have c2:=nM hL (bs [58]) _ e1.lt hl;have c3:=Hk _ e2.lt (by rw[e2.deep,i2.deep,hd1]);have c4:=kY (bs [44]) _ e3.lt hl;generalize (iG L q).1=s1 at*
     generalize (iG L q).2=q1' at*
     generalize iH L (bs [58]) q1'=q2' at*
     generalize (ki q2').1=k1 at*
     generalize (ki q2').2=q3' at*
     simp;apply gN [0] c1;simp;apply gN [0] c2;simp;apply gN [0] c3;simp;refine⟨oM,oM,?_⟩;apply gN [0] c4;by_cases q5:(gU L (bs [44]) q3').1=tT
     .rw[aC q5]at i1;have ha:=(X_ q5).1;have hb':=e3.le;simp[q5];refine fE (n,ns++[s1],ks++[k1],(gU L (bs [44]) q3').2) [0,1,2,3,7,8] ⟨i1,i2.trans e4,qM,by simp[i4],by simp;omega⟩ oC ?_;simp;exact⟨aD oC,aD oC⟩
     .rw[aB q5,kH q5]at i1;rw[<-i1];have c5:=nM hL (bs [125]) _ e3.lt hl;rw[kH q5];rw[aT]at q5;simp[q5];apply fQ [7,8];have k1':take (lN ns) (List.map (λx=>List.map AC.d x) (encS ns))=List.map (λx=>List.map AC.d x) (encS ns):=aD oC;have k2':take (lN ks) (List.map ((λx=>List.map AC.d x)∘f_.enc) ks)=List.map ((λx=>List.map AC.d x)∘f_.enc) ks:=aD oC;simp[iE,k1',k2'];apply gN [0] c5;simp[iE,k1',k2'];have z1:D.O_ (take (lN ns+1) (encS ns++[[D.str s1]]))=encS ns++[[D.str s1]]:=by
       rw[aD oC];simpa only[zwK,zwL]using IX (ns++[s1])
      have z2:D.O_ (take (lN ks+1) (ks.map f_.enc++[k1.enc]))=ks.map f_.enc++[k1.enc]:=by
       rw[aD oC];simpa using Qm (ks++[k1])
      exact fH [0] [1] (by simp[f_.enc,f_.q?,iE,k1',k2',z1,z2])
   .rw[aB q2,kH q2];rw[aT]at q2;have h4:=zo p h hl;simp[q2];apply gN [0] h4;simp;exact fH [0] [1] (by simp[f_.enc,f_.j?,encS])
def zwP:∀(n:Nat) (l:List f_) (p:PS),1<=lN l->1<=(uo L ki n l p).1.length
|0,l,p,h=>h
|n+1,l,p,h=>by
 rw[uo];split
 .exact zwP n _ _ oC
 .exact h
theorem zIy(hL:C? L)(hl:lN L<=10000)(hk:y_ L ki)(Hk:rU L d ki)(p:PS)(h:p.L_<lN L)(hd:p.deep=d):
  q_ Pg 199 [.c (.ptr 0 0)] [ic L p] (.ag ((uD L ki p).1.enc.map .d)) [ic L (uD L ki p).2]:=by
 refine zD5 mD λts _e ok hb c hN hp=>?_;obtain⟨t,rfl⟩:=lK _e;have c1:=zwO hL hl hk Hk p h hd;have t1:=Jk hL hk p h;have hpos:=zwP (L:=L) (ki:=ki) (lN L+1) [(um L ki p).1] (um L ki p).2 oC;unfold YB uD;simp only;let⟨F0,_y⟩:=oJ (uo L ki (lN L+1) [(um L ki p).1] (um L ki p).2);rw[_y]at hpos⊢;generalize (um L ki p).1=T1 at*
 generalize (um L ki p).2=p1 at*
 simp;refine gN [0] c1 ?_;simp
 refine fM gm hp (λx:Nat × List f_ × PS=>uo L ki x.1 x.2.1 x.2.2=F0/\Tm L p1 x.2.2/\lN L<x.1+x.2.2.L_/\lN x.2.1<=x.2.2.L_+1)
  (λx=>[(0,.c (.ptr 0 0)),(2,.c (.ptr 2 0)),(3,.c (.x_ 4 3 0 (lN x.2.1)))])
  (λx=>[ic L x.2.2,.G_ t 0,GD,.arr 4 ((x.2.1.map f_.enc).map (·.map .d))])
  (λx=>x.1) (lN L+1,[T1],p1) [0,1,2,3] ⟨_y,Tm.refl t1.lt,qM,oC⟩ oC λ⟨n,l,q⟩ ⟨i1,i2,i3,i4⟩=>?_
 unfold YA;simp only at i1 i2 i4;have i3:lN L<n+q.L_:=i3;have _k:=i2.lt;obtain⟨n,rfl⟩:∃m,n=m+1:=⟨n-1,oM⟩
 rw[uo]at i1;have e1:=iB hL _k (s:=bs [124]);have a1:=kY (bs [124]) q _k hl;simp;refine gN [0] a1 ?_;by_cases q1:(gU L (bs [124]) q).1=tT
 .rw[aC q1]at i1;have i1:uo L ki n (l++[(um L ki (gU L (bs [124]) q).2).1]) (um L ki (gU L (bs [124]) q).2).2=F0:=i1;have ha:=(X_ q1).1;have e2:=e1.trans (Jk hL hk _ e1.lt);have hle:=(Jk hL hk _ e1.lt).le;have a2:=zwO hL hl hk Hk _ e1.lt (by rw[e1.deep,i2.deep,t1.deep,hd]);generalize (gU L (bs [124]) q).2=q2 at*
  generalize (um L ki q2).1=T2 at*
  generalize (um L ki q2).2=q3 at*
  simp[q1];refine gN [0] a2 ?_;simp;refine jV ?_;refine fE (n,l++[T2],q3) [0,1,2,5] ⟨i1,i2.trans e2,qM,by simp;omega⟩ oC ?_;simp;exact aD oC
 .rw[aB q1]at i1;rw[kH q1];rw[aT]at q1;rw[<-i1]at hpos⊢;simp only at hpos⊢;by_cases hl1:lN l=1
  .obtain⟨T,rfl⟩:∃T,l=[T]:=by
    match l,hl1 with
    |[T],_=>exact⟨T,rfl⟩
   have ho:Qf [T]=T:=rfl;rw[ho];simp[q1];refine fQ [3] ?_;simp (maxSteps:=1000000) [iE];exact fJ [0] [1]
  .have htk:take (lN l) (List.map ((λx=>List.map AC.d x)∘f_.enc) l)=List.map ((λx=>List.map AC.d x)∘f_.enc) l:=aD oC;have _A:¬((lN l:Int)=1):=oM;rw[zHG hl1];simp[q1];refine fQ [3] ?_;simp (maxSteps:=1000000) [iE,htk,_A,hl1];have z:D.O_ (take (lN l) (l.map f_.enc))=l.map f_.enc:=by
    rw[aD oC];exact Qm l
   exact fH [0] [1] (by simp[f_.enc,f_.q?,encS,z])
def Qn(hL:C? L)(hl:lN L<=10000):∀(n:Nat) (p:PS),p.L_<lN L->p.deep<=100->101<=p.deep+n->q_ Pg 180 [.c (.ptr 0 0)] [ic L p] (.ag ((yu L n p).1.enc.map .d)) [ic L (yu L n p).2]
|0,p,h,h1,h2=>by omega
| n+1,p,h,h1,h2=>by
 have ce:=Ql p h oM;refine zBQ mD λts _e ok hb c hN hp=>?_;obtain⟨t,rfl⟩:=lK _e;have hR:yu L (n+1) p=if(iL L p).1=tT then xG (Je L (yu L n) (iL L p).2)else(C_,(iL L p).2):=by rw[yu]
 rw[hR];simp[Xz];apply gN [0] ce;by_cases q:(iL L p).1=tT
 .rw[aC q];let⟨e1,e2,e3⟩:=Ca q;have hk:=Qh hL n;have Hk:rU L (p.deep+1) (yu L n):=λr hr hd=>Qn hL hl n r hr oM oM;have hp1:(iL L p).2.L_<lN L:=by rw[e1];exact h
  have hd1:(iL L p).2.deep=p.deep+1:=by rw[e1]
  have a1:=zIy hL hl hk Hk _ hp1 hd1;have t1:=zEo hL hk _ hp1;have a2:=kY (bs [45,62]) _ t1.lt hl;have t2:=t1.trans (iB hL t1.lt (s:=bs [45,62]));unfold xG Je;simp only;generalize (iL L p).2=p1 at*
  generalize (uD L (yu L n) p1).1=T1 at*
  generalize (uD L (yu L n) p1).2=p2 at*
  simp[q];apply gN [0] a1;simp;apply gN [0] a2;by_cases q2:(gU L (bs [45,62]) p2).1=tT
  .rw[aC q2];have a3:=Hk _ t2.lt (by rw[t2.deep,hd1]);have hd3:=(t2.trans (hk _ t2.lt)).deep;simp only;simp only[hd1]at hd3;generalize (gU L (bs [45,62]) p2).2=p3 at*
   generalize (yu L n p3).1=T3 at*
   generalize (yu L n p3).2=p4 at*
   simp[q2];apply gN [0] a3;simp;have hw:IntKind.i64.wrap ((p4.deep:Int)-1)=((p4.deep-1:Nat):Int):=by rw[wI];omega
   exact fH [0] [1] (by simp[f_.enc,f_.j?,encS,hw])
  .rw[aB q2,kH q2];have hd3:=t1.deep;rw[hd1]at hd3;rw[aT]at q2;simp[q2];have hw:IntKind.i64.wrap ((p2.deep:Int)-1)=((p2.deep-1:Nat):Int):=by rw[wI];omega
   exact fK [0] [1] (by simp[hw])
 .rw[aB q];rw[aT]at q;simp[q];exact fH [0] [1] (by simp[C_,f_.enc,f_.j?,encS])
end
end Go.Gr
namespace Go.Gr
open Go.Abs Go.Proofs
variable {d:Nat}{ki:PS->f_ × PS}
mutual
theorem o_.W_:∀t:o_,D.W_ t.enc=t.enc
|.mk k t n a b ts ns ks=>by
 simp only[o_.enc,D.W_,D.K_,IX,Qm,o_.O_ ks]
theorem o_.O_:∀l:List o_,D.O_ (o_.j? l)=o_.j? l
|[]=>rfl
|t::l=>by simp only[o_.j?,D.O_,o_.W_ t,o_.O_ l]
end
attribute [simp] o_.W_ o_.O_
@[simp] theorem zJQ(l:sJ):D.O_ (l.map o_.enc)=l.map o_.enc:=by rw[<-o_.q?];exact o_.O_ l
def mQ(L:sF)(f:FuncId)(d:Nat)(ex:PS->o_ × PS):Prop:=∀p:PS,p.L_<lN L->p.deep=d->q_ Pg f [.c (.ptr 0 0)] [ic L p] (.ag ((ex p).1.enc.map .d)) [ic L (ex p).2]
section
variable {L:List Tok}
def IY(k:Int)(p:PS)(h:p.L_<lN L):q_ Pg 200 [.c (.ptr 0 0),.c (.d (.int .i64 k))] [ic L p] (.ag [.d (.int .i64 k),.d (.str (bs [])),.d (.int .i64 0),.d (.int .i64 (U_ L p).line),.d (.int .i64 (U_ L p).t_),.d (.sl tT 4 []),.d (.sl tT 1 []),.d (.sl tT 8 [])]) [ic L p]:=by
 refine zGC mD λts _e ok hb c hN hp=>?_;obtain⟨t,rfl⟩:=lK _e;have hg:=Cc h;unfold YG;simp[hg];refine oG ?_;exact fJ [0] [1]
def Jp(hL:C? L)(hl:lN L<=10000)(Hk:rU L d ki)(p:PS)(h:p.L_<lN L)(hd:p.deep=d):
  q_ Pg 181 [.c (.ptr 0 0)] [ic L p] (.c (.d (.sl tT 4 ((rM L ki p).1.map f_.enc)))) [ic L (rM L ki p).2]:=by
 refine zBS mD λts _e ok hb c hN hp=>?_;obtain⟨t,rfl⟩:=lK _e;have c1:=kY (bs [58]) p h hl;simp[YF,rM];apply gN [0] c1;by_cases q:(gU L (bs [58]) p).1=tT
 .have t1:=iB hL h (s:=bs [58]);have c2:=Hk _ t1.lt (by rw[t1.deep,hd]);rw[aC q];simp[q];apply gN [0] c2;simp;exact fJ [0] [1]
 .rw[aB q,kH q];rw[aT]at q;simp[q];exact fJ [0] [1]
def M7(ki:PS->f_ × PS)(q:PS):(rM L ki q).1=[]\/∃T,(rM L ki q).1=[T]:=by
 unfold rM;split
 .exact .inr ⟨_,rfl⟩
 .exact .inl rfl
theorem zFW(hL:C? L)(hl:lN L<=10000)(hk:y_ L ki)(Hk:rU L d ki)(p:PS)(h:p.L_<lN L)(hd:p.deep=d):
  q_ Pg 147 [.c (.ptr 0 0)] [ic L p] (.a? [.c (.d (.str (uq L ki p).1.1)),.c (.d (.sl oK 4 ((uq L ki p).1.2.map f_.enc)))]) [ic L (uq L ki p).2]:=by
 refine Ja mD λts _e ok hb c hN hp=>?_;obtain⟨t,rfl⟩:=lK _e;have t1:=iF hL h (s:=bs [40]);have t2:=t1.trans (kX hL t1.lt);have t3:=t2.trans (Cb hL hk _ t2.lt);have t4:=t3.trans (iF hL t3.lt (s:=bs [41]));have c1:=nM hL (bs [40]) p h hl;have c2:=zo _ t1.lt hl;have c3:=Jp hL hl Hk _ t2.lt (by rw[t2.deep,hd]);have c4:=nM hL (bs [41]) _ t3.lt hl;have c5:=Jp hL hl Hk _ t4.lt (by rw[t4.deep,hd]);have n1:=M7 (L:=L) ki (iG L (iH L (bs [40]) p)).2;have n2:=M7 (L:=L) ki (iH L (bs [41]) (rM L ki (iG L (iH L (bs [40]) p)).2).2);unfold IQ uq;simp only;generalize iH L (bs [40]) p=p1 at*
 generalize (iG L p1).1=s1 at*
 generalize (iG L p1).2=p2 at*
 generalize (rM L ki p2).1=A at*
 generalize (rM L ki p2).2=p3 at*
 generalize iH L (bs [41]) p3=p4 at*
 generalize (rM L ki p4).1=B at*
 generalize (rM L ki p4).2=p5 at*
 simp;apply gN [0] c1;simp;apply gN [0] c2;simp;apply gN [0] c3;simp;apply gN [0] c4;simp;apply gN [0] c5;have hn:C_.enc=[.int .i64 0,.str (bs []),.sl oK 1 [],.sl oK 4 []]:=rfl;rcases n1 with rfl|⟨T,rfl⟩<;>rcases n2 with rfl|⟨U,rfl⟩<;>simp
 .apply fQ [];simp;exact fH [0] [1] (by simp[hn,AV.R_])
 .apply fQ [2];simp[iE];exact fH [0] [1] (by simp[hn,AV.R_])
 .apply fQ [];simp;exact fH [0] [1] (by simp[hn,AV.R_])
 .apply fQ [2];simp[iE];exact fH [0] [1] (by simp[hn,AV.R_])
def zq(L:sF)(d:Nat)(k:Int)(rk:PS->o_ × PS):Prop:=∀p:PS,p.L_<lN L->p.deep=d->q_ Pg 201 [.c (.ptr 0 0),.c (.d (.int .i64 k))] [ic L p] (.ag ((rk p).1.enc.map .d)) [ic L (rk p).2]
def qf(p:PS)(k:Int)(t:fD)(n:Int)(ts:oL)(ns:oN)(ks:sJ):(jX L p k t n ts ns ks).enc=[.int .i64 k,.str t,.int .i64 n,.int .i64 (U_ L p).line,.int .i64 (U_ L p).t_,.sl oK 4 (ts.map f_.enc),.sl oK 1 (encS ns),.sl oK 8 (ks.map o_.enc)]:=by
 unfold jX;rw[o_.l_];try rfl
def zFX(hL:C? L)(hl:lN L<=10000){ex rk:PS->o_ × PS}(hk:y_ L ki)(Hk:rU L d ki)(he:y_ L ex)(He:mQ L 148 d ex)(Hr:zq L d 0 rk)(p:PS)(h:p.L_<lN L)(hd:p.deep=d):
  q_ Pg 183 [.c (.ptr 0 0)] [ic L p] (.ag ((C8 L ki ex rk p).1.enc.map .d)) [ic L (C8 L ki ex rk p).2]:=by
 refine zBU mD λts _e ok hb c hN hp=>?_;obtain⟨t,rfl⟩:=lK _e;have c0:=IY (L:=L) 5 p h;have c1:=kY vV p h hl;simp[YI,C8];apply gN [0] c0;simp;apply gN [0] c1;by_cases q1:(gU L vV p).1=tT
 .rw[aC q1];have t1:=iB hL h (s:=vV);have t2:=t1.trans (kX hL t1.lt);have t3:=t2.trans (Cb hL hk _ t2.lt);have t4:=t3.trans (iF hL t3.lt (s:=bs [61]));have t5:=t4.trans (he _ t4.lt);have t6:=t5.trans (iF hL t5.lt (s:=bs [59]));have a1:=zo _ t1.lt hl;have a2:=Jp hL hl Hk _ t2.lt (by rw[t2.deep,hd]);have a3:=nM hL (bs [61]) _ t3.lt hl;have a4:=He _ t4.lt (by rw[t4.deep,hd]);have a5:=nM hL (bs [59]) _ t5.lt hl;have a6:=He _ t6.lt (by rw[t6.deep,hd]);generalize (gU L vV p).2=p1 at*
  generalize (iG L p1).1=s1 at*
  generalize (iG L p1).2=p2 at*
  generalize (rM L ki p2).1=A at*
  generalize (rM L ki p2).2=p3 at*
  generalize iH L (bs [61]) p3=p4 at*
  generalize (ex p4).1=V at*
  generalize (ex p4).2=p5 at*
  generalize iH L (bs [59]) p5=p6 at*
  generalize (ex p6).1=B at*
  generalize (ex p6).2=p7 at*
  simp[q1];apply gN [0] a1;simp;apply gN [0] a2;simp;apply gN [0] a3;simp;apply gN [0] a4;simp;apply gN [0] a5;simp;apply gN [0] a6;simp;exact fH [0] [1] (by simp[qf,encS])
 .rw[aB q1,kH q1];rw[aT]at q1;have c2:=kY Df p h hl;simp[q1];apply gN [0] c2;by_cases q2:(gU L Df p).1=tT
  .rw[aC q2];have t1:=iB hL h (s:=Df);have t2:=t1.trans (he _ t1.lt);have t3:=t2.trans (iF hL t2.lt (s:=Fh));have t4:=t3.trans (he _ t3.lt);have t5:=t4.trans (iF hL t4.lt (s:=Fj));have a1:=He _ t1.lt (by rw[t1.deep,hd]);have a2:=nM hL Fh _ t2.lt hl;have a3:=He _ t3.lt (by rw[t3.deep,hd]);have a4:=nM hL Fj _ t4.lt hl;have a5:=He _ t5.lt (by rw[t5.deep,hd]);generalize (gU L Df p).2=p1 at*
   generalize (ex p1).1=C at*
   generalize (ex p1).2=p2 at*
   generalize iH L Fh p2=p3 at*
   generalize (ex p3).1=A at*
   generalize (ex p3).2=p4 at*
   generalize iH L Fj p4=p5 at*
   generalize (ex p5).1=B at*
   generalize (ex p5).2=p6 at*
   simp[q2];apply gN [0] a1;simp;apply gN [0] a2;simp;apply gN [0] a3;simp;apply gN [0] a4;simp;apply gN [0] a5;simp;exact fH [0] [1] (by simp[qf,encS])
  .rw[aB q2,kH q2];rw[aT]at q2;have c3:=kY wU p h hl;simp[q2];apply gN [0] c3;by_cases q3:(gU L wU p).1=tT
   .rw[aC q3];have t1:=iB hL h (s:=wU);have t2:=t1.trans (El hL hk _ t1.lt);have t3:=t2.trans (iF hL t2.lt (s:=bs [61,62]));have a1:=zFW hL hl hk Hk _ t1.lt (by rw[t1.deep,hd]);have a2:=nM hL (bs [61,62]) _ t2.lt hl;have a3:=He _ t3.lt (by rw[t3.deep,hd]);generalize (gU L wU p).2=p1 at*
    generalize (uq L ki p1).1.1=s1 at*
    generalize (uq L ki p1).1.2=A at*
    generalize (uq L ki p1).2=p2 at*
    generalize iH L (bs [61,62]) p2=p3 at*
    generalize (ex p3).1=B at*
    generalize (ex p3).2=p4 at*
    simp[q3];apply gN [0] a1;simp;apply gN [0] a2;simp;apply gN [0] a3;simp;exact fH [0] [1] (by simp[qf,encS])
   .rw[aB q3,kH q3];rw[aT]at q3;have a1:=Hr p h hd;simp[q3];apply gN [0] a1;simp;exact fJ [0] [1]
end
end Go.Gr
namespace Go.Gr
open Go.Abs Go.Proofs List
variable {a:o_}{k d:Nat}
def zw2:∀v:List D,(D.W_ v).length=lN v
|[]=>rfl
|d::v=>by simp only[D.W_,length_cons,zw2 v]
@[simp] theorem zMu(v:oQ):List.map (AC.K_∘AC.d) v=(D.W_ v).map .d:=by rw[<-dP,zwN]
def M8{v:oQ}(h:D.W_ v=a.enc):lN v=8:=by rw[<-zw2,h];simp
def zDO{v:oQ}(h:D.W_ v=a.enc):cut (v.map AC.d) 0 8=v.map .d:=by
 have:=M8 h;unfold cut;simp[this]
def zAi{v:oQ}(h:D.W_ v=a.enc):cut v 0 8=v:=by
 have:=M8 h;unfold cut;simp[this]
abbrev rkT:o5:=[[.sl tT 1 [[.str (bs [111,114])]]],[.sl tT 1 [[.str (bs [97,110,100])]]],[.sl tT 1 []],[.sl tT 1 [[.str (bs [43,43])]]],[.sl tT 1 [[.str (bs [43])],[.str (bs [45])],[.str (bs [94])]]],[.sl tT 1 [[.str (bs [42])],[.str (bs [47])],[.str (bs [37])],[.str (bs [38])],[.str (bs [60,60])],[.str (bs [62,62])]]]]
def zIH(h:k<6):rkT[k]?=sS [.sl tT 1 (encS (ut k))]:=by
 match k,h with
 |0,_=>rfl
 |1,_=>rfl
 |2,_=>rfl
 |3,_=>rfl
 |4,_=>rfl
 |5,_=>rfl
def zDP:(ut k).length<=6:=by
 unfold ut;split<;>simp
section
variable {L:List Tok}
def BX(L:sF)(rk:PS->o_ × PS)(_t:oN)(n i:Nat)(a:o_)(p:PS):o_ × PS:=match zh L (_t.drop i) p with
|none=>(a,p)
|some (s,q)=>jY L rk _t n (jX L p 14 s 0 [] [] [a,(rk q).1]) (rk q).2
def zH0(rk:PS->o_ × PS)(_t:oN)(n:Nat)(a:o_)(p:PS):jY L rk _t (n+1) a p=BX L rk _t n 0 a p:=by
 rw[jY];unfold BX;rw[fC];try rfl
abbrev BZ:A_:=.box [.d (.int .i64 0),.d (.str (bs [])),.d (.int .i64 0),.d (.int .i64 0),.d (.int .i64 0),.d (.sl tT 4 []),.d (.sl tT 1 []),.d (.sl tT 8 [])]
def Jq(hL:C? L)(hl:lN L<=10000)(hk:k<6)(hk2:k≠2){rk:PS->o_ × PS}(hr:y_ L rk)(Hr:zq L d (k+1:Nat) rk):
  zq L d k (λp=>jY L rk (ut k) (lN L+1) (rk p).1 (rk p).2):=by
 intro p h hd;refine QL mD λts _e ok hb c hN hp=>?_;obtain⟨t,rfl⟩:=lK _e;have c1:=Hr p h hd;have t1:=hr p h;have h6:¬((k:Int)=6):=oM;have h2:¬((k:Int)=2):=oM;have hw:IntKind.i64.wrap ((k:Int)+1)=((k+1:Nat):Int):=by rw[wI];omega
 have hT:=zIH hk;have hs6:=zDP (k:=k);simp only;let⟨F0,_y⟩:=oJ (jY L rk (ut k) (lN L+1) (rk p).1 (rk p).2);rw[_y];rw[zH0]at _y;generalize (rk p).1=A at*
 generalize (rk p).2=p1 at*
 unfold M0;simp[h6,h2,hw];apply gN [0] c1;generalize ut k=sg at*
 have hd1:p1.deep=d:=by rw[t1.deep,hd]
 simp;generalize hTT:rkT=TT at*
 refine fM gm hp (λx:Nat × Nat × o_ × List D × PS=>BX L rk sg x.1 x.2.1 x.2.2.1 x.2.2.2.2=F0/\Tm L p1 x.2.2.2.2/\lN L<x.1+1+x.2.2.2.2.L_/\x.2.1<=lN sg/\D.W_ x.2.2.2.1=x.2.2.1.enc)
  (λx=>[(0,.c (.ptr 0 0)),(1,.c (.d (.int .i64 k))),(4,.c (.ptr 2 0)),(5,.c (.d (.sl tT 1 TT))),(6,.c (.ptr 3 0)),(7,.c (.d (.int .i64 x.2.1)))])
  (λx=>[ic L x.2.2.2.2,.G_ t 0,BZ,.box (x.2.2.2.1.map .d)])
  (λx=>x.1*7+(lN sg-x.2.1)) (lN L,0,A,A.enc,p1) [0,1,2,3] ⟨_y,Tm.refl t1.lt,qM,oC,oC⟩ (by simp[<-hTT]) λ⟨n,i,a,v,q⟩ ⟨i1,i2,i3,i4,i5⟩=>?_
 unfold YJ;simp only at i1 i2 i4 i5;have i3:lN L<n+1+q.L_:=i3;have _k:=i2.lt;have hcut:=zDO i5;have hcut':=zAi i5;have hvl:=M8 i5;simp[hT];apply gM<;>intro hj
 .have hj:i<lN sg:=uM hj;have hg:sg[i]?=sS sg[i]:=aA hj;have a0:=IY (L:=L) 14 q _k;have a1:=kY sg[i] q _k hl;unfold BX at i1;rw[aF hj,zh]at i1;generalize sg[i]=s at*
  apply gN [0] a0;simp[hT,hg];apply gN [0] a1;by_cases q1:(gU L s q).1=tT
  .rw[aC q1]at i1;simp only at i1;have ha:=(X_ q1).1;have e1:=iB hL _k (s:=s);have a2:=Hr _ e1.lt (by rw[e1.deep,i2.deep,hd1]);have e2:=e1.trans (hr _ e1.lt);have hle:=(hr _ e1.lt).le;obtain⟨n,rfl⟩:∃m,n=m+1:=⟨n-1,by have:=e1.lt;omega⟩
   rw[zH0]at i1;generalize (gU L s q).2=q2 at*
   generalize (rk q2).1=B at*
   generalize (rk q2).2=q3 at*
   simp[q1,hw];apply gN [0] a2;simp[hT,hg,hvl,hcut,hcut'];refine fE (n,0,jX L q 14 s 0 [] [] [a,B],([.int .i64 14,.str s,.int .i64 0,.int .i64 (U_ L q).line,.int .i64 (U_ L q).t_,.sl tT 4 [],.sl tT 1 [],.sl tT 8 [v,B.enc]]:oQ),q3) [0,1,2,3] ⟨i1,i2.trans e2,qM,oC,?_⟩ (by simp;omega) ?_
   .simp[qf,i5,encS]
   .simp
  .rw[aB q1]at i1;rw[kH q1];rw[aT]at q1;simp[q1];apply fE (n,i+1,a,v,q) [0,1,2,3] ⟨i1,i2,qM,qM,i5⟩ qM;simp;exact wI
 .have hj:i=lN sg:=oI hj;subst hj;unfold BX at i1;rw[aS,zh]at i1;have i1:(a,q)=F0:=i1;rw[<-i1];simp[hvl,hcut];exact fH [0] [1] (by simp[hcut,i5])
def zDQ{un:PS->o_ × PS}(Hu:mQ L 215 d un):zq L d 6 un:=by
 intro p h hd;refine QL mD λts _e ok hb c hN hp=>?_;obtain⟨t,rfl⟩:=lK _e;have c1:=Hu p h hd;simp[M0];apply gN [0] c1;simp;exact fJ [0] [1]
def zDR{un:PS->o_ × PS}(Hu:mQ L 216 d un):zq L d 2 un:=by
 intro p h hd;refine QL mD λts _e ok hb c hN hp=>?_;obtain⟨t,rfl⟩:=lK _e;have c1:=Hu p h hd;simp[M0];apply gN [0] c1;simp;exact fJ [0] [1]
end
section
variable {L:List Tok}
abbrev uz:oN:=[bs [60],bs [60,61],bs [61,61]]
theorem zIk(hL:C? L)(hl:lN L<=10000){d:Nat}{ki:PS->f_ × PS}{rk:PS->o_ × PS}(hk:y_ L ki)(Hk:rU L d ki)(hr:y_ L rk)(Hr:zq L d 3 rk):
  mQ L 216 d (uu L ki rk):=by
 intro p h hd;refine zD6 mD λts _e ok hb c hN hp=>?_;obtain⟨t,rfl⟩:=lK _e;have c1:=Hr p h hd;have t1:=hr p h;have a0:=IY (L:=L) 14 _ t1.lt;let⟨F0,_y⟩:=oJ (uu L ki rk p);rw[_y];unfold uu at _y;simp only at _y;rw[show rk p=((rk p).1,(rk p).2)from rfl]at _y;simp only at _y;generalize (rk p).1=A at*
 generalize (rk p).2=p1 at*
 have hd1:p1.deep=d:=by rw[t1.deep,hd]
 simp[YM];apply gN [0] c1;simp;apply gN [0] a0;simp
 refine fM gm hp (λj:Nat=>j<=3/\zh L (uz.drop j) p1=zh L uz p1)
  (λj=>[(0,.c (.ptr 0 0)),(2,.c (.ptr 2 0)),(3,.c (.ptr 3 0)),(4,.c (.ptr 4 0)),(5,.c (.d (.sl tT 1 (encS uz)))),(6,.c (.d (.int .i64 j)))])
  (λj=>[ic L p1,.G_ t 0,BZ,.box (A.enc.map .d),.box [.d (.int .i64 14),.d (.str (bs [])),.d (.int .i64 0),.d (.int .i64 (U_ L p1).line),.d (.int .i64 (U_ L p1).t_),.d (.sl tT 4 []),.d (.sl tT 1 []),.d (.sl tT 8 [])]])
  (λj=>3-j) 0 [0,1,2,3,4] ⟨oC,rfl⟩ (by simp[encS]) λj ⟨i1,i2⟩=>?_
 unfold YK;have hsl:lN uz=3:=rfl;simp[hsl];apply gM<;>intro h3
 .have hj:j<lN uz:=oI h3;have _q:j<3:=oM;rw[aF hj,zh]at i2;have hg:uz[j]?=sS uz[j]:=aA hj;have ht:=kY uz[j] p1 t1.lt hl;generalize uz[j]=s at*
  simp[hg];apply gN [0] ht;by_cases q:(gU L s p1).1=tT
  .rw[aC q]at i2;rw[<-i2]at _y;have _y:(jX L p1 14 s 0 [] [] [A,(rk (gU L s p1).2).1],(rk (gU L s p1).2).2)=F0:=_y;rw[<-_y];have e1:=iB hL t1.lt (s:=s);have a2:=Hr _ e1.lt (by rw[e1.deep,hd1]);simp only;generalize (gU L s p1).2=p2 at*
   generalize (rk p2).1=B at*
   generalize (rk p2).2=p3 at*
   simp[q];apply gN [0] a2;simp[hg];exact fH [0] [1] (by simp[qf,encS])
  .rw[aB q]at i2;rw[kH q];rw[aT]at q;simp[q];apply fE (j+1) [0,1,2,3,4] ⟨oM,i2⟩ oM;simp;exact wI
 .have hj:j=3:=oI h3;subst hj;have i2:zh L uz p1=nN:=by rw[<-i2];try rfl
  rw[i2]at _y;simp only at _y;have b1:=kY (bs [97,115]) p1 t1.lt hl;simp;apply gN [0] b1;by_cases q1:(gU L (bs [97,115]) p1).1=tT
  .rw[aC q1]at _y;have e1:=iB hL t1.lt (s:=bs [97,115]);have a2:=Hk _ e1.lt (by rw[e1.deep,hd1]);rw[<-_y];simp only;generalize (gU L (bs [97,115]) p1).2=p2 at*
   generalize (ki p2).1=T at*
   generalize (ki p2).2=p3 at*
   simp[q1];apply gN [0] a2;simp;exact fH [0] [1] (by simp[qf,encS])
  .rw [aB q1]at _y;rw[kH q1];rw[aT]at q1;have b2:=kY (bs [105,115]) p1 t1.lt hl;simp[q1];apply gN [0] b2;by_cases q2:(gU L (bs [105,115]) p1).1=tT
   .rw[aC q2]at _y;have e1:=iB hL t1.lt (s:=bs [105,115]);generalize (gU L (bs [105,115]) p1).2=p2 at*
    simp[q2]
    refine fM gm hp (λj:Nat=>j<=6/\yK L j (zi.drop j) p2=yK L 0 zi p2)
     (λj=>[(0,.c (.ptr 0 0)),(2,.c (.ptr 2 0)),(4,.c (.ptr 4 0)),(9,.c (.d (.sl tT 1 (encS zi)))),(10,.c (.d (.int .i64 j)))])
     (λj=>[ic L p2,.G_ t 0,BZ,.box (A.enc.map .d),.box [.d (.int .i64 12),.d (.str (bs [])),.d (.int .i64 0),.d (.int .i64 (U_ L p1).line),.d (.int .i64 (U_ L p1).t_),.d (.sl tT 4 []),.d (.sl tT 1 []),.d (.sl tT 8 [A.enc])]])
     (λj=>6-j) 0 [0,1,2,3,4] ⟨oC,rfl⟩ (by simp[encS,zi]) λj ⟨j1,j2⟩=>?_
    unfold YL;have htl:lN zi=6:=rfl;simp[htl];apply gM<;>intro h6
    .have hj:j<lN zi:=oI h6;have _q:j<6:=oM;rw[aF hj,yK]at j2;have hg:zi[j]?=sS zi[j]:=aA hj;have ht:=kY zi[j] p2 e1.lt hl;generalize zi[j]=s at*
     simp[hg];apply gN [0] ht;by_cases q:(gU L s p2).1=tT
     .rw[aC q]at j2;rw[<-j2]at _y;have _y:(jX L p1 12 (bs []) j [] [] [A],(gU L s p2).2)=F0:=_y;rw[<-_y];simp[q];exact fH [0] [1] (by simp[qf,encS])
     .rw[aB q]at j2;rw[kH q];rw[aT]at q;simp[q];apply fE (j+1) [0,1,2,3,4] ⟨oM,j2⟩ oM;simp;exact wI
    .have hj:j=6:=oI h6;subst hj;have j2:yK L 0 zi p2=nN:=by rw[<-j2];try rfl
     rw[j2]at _y;have _y:(jX L p1 12 (bs []) 0 [] [] [A],yt L 7 p2)=F0:=_y;rw[<-_y];have b3:=Jo (L:=L) 7 p2 e1.lt;simp;apply gN [0] b3;simp;exact fH [0] [1] (by simp[qf,encS])
   .rw[aB q2]at _y;rw[kH q2,<-_y];rw[aT]at q2;simp[q2];exact fJ [0] [1]
end
end Go.Gr
namespace Go.Gr
open Go.Abs Go.Proofs
variable {ex:PS->o_ × PS}
section
variable {L:List Tok}
def zGU(hL:C? L)(hl:lN L<=10000){d:Nat}{at_:PS->o_ × PS}(ha:y_ L at_)(Ha:mQ L 224 d at_)(he:y_ L ex)(He:mQ L 148 d ex):
  mQ L 222 d (λp=>vW L ex (lN L+1) (at_ p).1 (at_ p).2):=by
 intro p h hd;refine zBV mD λts _e ok hb c hN hp=>?_;obtain⟨t,rfl⟩:=lK _e;have c1:=Ha p h hd;have t1:=ha p h;simp only;let⟨F0,_y⟩:=oJ (vW L ex (lN L+1) (at_ p).1 (at_ p).2);rw[_y];generalize (at_ p).1=A at*
 generalize (at_ p).2=p1 at*
 have hd1:p1.deep=d:=by rw[t1.deep,hd]
 simp[YP];apply gN [0] c1;simp
 refine fM gm hp (λx:Nat × o_ × List D × PS=>vW L ex x.1 x.2.1 x.2.2.2=F0/\Tm L p1 x.2.2.2/\lN L<x.1+x.2.2.2.L_/\D.W_ x.2.2.1=x.2.1.enc)
  (λx=>[(0,.c (.ptr 0 0)),(2,.c (.ptr 2 0)),(3,.c (.ptr 3 0))])
  (λx=>[ic L x.2.2.2,.G_ t 0,BZ,.box (x.2.2.1.map .d)])
  (λx=>x.1) (lN L+1,A,A.enc,p1) [0,1,2,3] ⟨_y,Tm.refl t1.lt,qM,oC⟩ oC λ⟨n,a,v,q⟩ ⟨i1,i2,i3,i5⟩=>?_
 unfold YO;simp only at i1 i2 i5;have i3:lN L<n+q.L_:=i3;have _k:=i2.lt;have hcut:=zDO i5;have hcut':=zAi i5;have hvl:=M8 i5;obtain⟨n,rfl⟩:∃m,n=m+1:=⟨n-1,oM⟩
 rw[vW]at i1;have a0:=IY (L:=L) 7 q _k;have a1:=kY (bs [40]) q _k hl;simp;apply gN [0] a0;simp;apply gN [0] a1;by_cases q1:(gU L (bs [40]) q).1=tT
 .rw[aC q1]at i1;simp only at i1;have hat:=(X_ q1).1;have e1:=iB hL _k (s:=bs [40]);have e2:=e1.trans (he _ e1.lt);have e3:=e2.trans (iF hL e2.lt (s:=bs [41]));have le1:=(he _ e1.lt).le;have le2:=(iF hL e2.lt (s:=bs [41])).le;have a2:=He _ e1.lt (by rw[e1.deep,i2.deep,hd1]);have a3:=nM hL (bs [41]) _ e2.lt hl;generalize (gU L (bs [40]) q).2=q2 at*
  generalize (ex q2).1=B at*
  generalize (ex q2).2=q3 at*
  generalize iH L (bs [41]) q3=q4 at*
  simp[q1];apply gN [0] a2;simp;apply gN [0] a3;simp[hvl,hcut,hcut'];refine fE (n,jX L q 7 (bs []) 0 [] [] [a,B],([.int .i64 7,.str (bs []),.int .i64 0,.int .i64 (U_ L q).line,.int .i64 (U_ L q).t_,.sl tT 4 [],.sl tT 1 [],.sl tT 8 [v,B.enc]]:oQ),q4) [0,1,2,3] ⟨i1,i2.trans e3,qM,?_⟩ oC ?_
  .simp[qf,i5,encS]
  .simp
 .rw[aB q1]at i1;rw[kH q1];rw[aT]at q1;have a2:=kY (bs [46]) q _k hl;simp[q1];apply gN [0] a2;by_cases q2:(gU L (bs [46]) q).1=tT
  .rw[aC q2]at i1;simp only at i1;have hat:=(X_ q2).1;have e1:=iB hL _k (s:=bs [46]);have e2:=e1.trans (kX hL e1.lt);have le1:=(kX hL e1.lt).le;have a3:=zo _ e1.lt hl;generalize (gU L (bs [46]) q).2=q2' at*
   generalize (iG L q2').1=s at*
   generalize (iG L q2').2=q3 at*
   simp[q2];apply gN [0] a3;simp[hvl,hcut,hcut'];refine fE (n,jX L q 9 s 0 [] [] [a],([.int .i64 9,.str s,.int .i64 0,.int .i64 (U_ L q).line,.int .i64 (U_ L q).t_,.sl tT 4 [],.sl tT 1 [],.sl tT 8 [v]]:oQ),q3) [0,1,2,3] ⟨i1,i2.trans e2,qM,?_⟩ oC ?_
   .simp[qf,i5,encS]
   .simp
  .rw[aB q2]at i1;rw[kH q2,<-i1];rw[aT]at q2;simp[q2,hvl,hcut,hcut'];exact fH [0] [1] (by simp[hcut,i5])
def zu9(hL:C? L)(hl:lN L<=10000){ki:PS->f_ × PS}{un:PS->o_ × PS}(hk:y_ L ki)(he:y_ L ex)(hu:y_ L un)(p:PS)(h:p.L_<lN L)(hd:p.deep<=100)
  (Hu:p.deep<100->mQ L 215 (p.deep+1) un) (Hp:p.deep<100->mQ L 222 (p.deep+1) (Fz L ki ex)):
  q_ Pg 215 [.c (.ptr 0 0)] [ic L p] (.ag ((if(iL L p).1=tT then xG (C9 L ki ex un (iL L p).2)else(uC,(iL L p).2)).1.enc.map .d)) [ic L (if(iL L p).1=tT then xG (C9 L ki ex un (iL L p).2)else(uC,(iL L p).2)).2]:=by
 have ce:=Ql p h oM;refine zzn mD λts _e ok hb c hN hp=>?_;obtain⟨t,rfl⟩:=lK _e;simp[YN];apply gN [0] ce;by_cases q:(iL L p).1=tT
 .rw[aC q];let⟨e1,e2,e3⟩:=Ca q;have hp1:(iL L p).2.L_<lN L:=by rw[e1];exact h
  have hd1:(iL L p).2.deep=p.deep+1:=by rw[e1]
  have Hu:=Hu e2;have Hp:=Hp e2;have a0:=IY (L:=L) 16 _ hp1;have a1:=kY (bs [45]) _ hp1 hl;unfold xG C9;simp only;generalize (iL L p).2=p1 at*
  simp[q];apply gN [0] a0;simp;apply gN [0] a1;by_cases q1:(gU L (bs [45]) p1).1=tT
  .rw[aC q1];have t1:=iB hL hp1 (s:=bs [45]);have t2:=t1.trans (hu _ t1.lt);have a2:=Hu _ t1.lt (by rw[t1.deep,hd1]);have hd3:=t2.deep;rw[hd1]at hd3;simp only;generalize (gU L (bs [45]) p1).2=p2 at*
   generalize (un p2).1=A at*
   generalize (un p2).2=p3 at*
   have hw:IntKind.i64.wrap ((p3.deep:Int)-1)=((p3.deep-1:Nat):Int):=by rw[wI];omega
   simp[q1];apply gN [0] a2;simp;exact fH [0] [1] (by simp[qf,encS,hw])
  .rw[aB q1,kH q1];rw[aT]at q1;have a2:=kY vX _ hp1 hl;simp[q1];apply gN [0] a2;by_cases q2:(gU L vX p1).1=tT
   .rw[aC q2];have t1:=iB hL hp1 (s:=vX);have t2:=t1.trans (hu _ t1.lt);have a2:=Hu _ t1.lt (by rw[t1.deep,hd1]);have hd3:=t2.deep;rw[hd1]at hd3;simp only;generalize (gU L vX p1).2=p2 at*
    generalize (un p2).1=A at*
    generalize (un p2).2=p3 at*
    have hw:IntKind.i64.wrap ((p3.deep:Int)-1)=((p3.deep-1:Nat):Int):=by rw[wI];omega
    simp[q2];apply gN [0] a2;simp;exact fH [0] [1] (by simp[qf,encS,hw])
   .rw[aB q2,kH q2];rw[aT]at q2;have t2:=zAI hL hk he p1 hp1;have a3:=Hp p1 hp1 hd1;have hd3:=t2.deep;rw[hd1]at hd3;generalize (Fz L ki ex p1).1=A at*
    generalize (Fz L ki ex p1).2=p3 at*
    have hw:IntKind.i64.wrap ((p3.deep:Int)-1)=((p3.deep-1:Nat):Int):=by rw[wI];omega
    simp[q2];apply gN [0] a3;simp;exact fK [0] [1] (by simp[hw])
 .rw[aB q];rw[aT]at q;simp[q];exact fH [0] [1] (by simp[uC,o_.enc,o_.j?,encS])
def zxE(hL:C? L)(hl:lN L<=10000){B:PS->o_ × PS}(hB:y_ L B)(p:PS)(h:p.L_<lN L)(hd:p.deep<=100)(HB:p.deep<100->mQ L 183 (p.deep+1) B):
  q_ Pg 148 [.c (.ptr 0 0)] [ic L p] (.ag ((if(iL L p).1=tT then xG (B (iL L p).2)else(uC,(iL L p).2)).1.enc.map .d)) [ic L (if(iL L p).1=tT then xG (B (iL L p).2)else(uC,(iL L p).2)).2]:=by
 have ce:=Ql p h oM;refine zBT mD λts _e ok hb c hN hp=>?_;obtain⟨t,rfl⟩:=lK _e;simp[YH];apply gN [0] ce;by_cases q:(iL L p).1=tT
 .rw[aC q];let⟨e1,e2,e3⟩:=Ca q;have hp1:(iL L p).2.L_<lN L:=by rw[e1];exact h
  have hd1:(iL L p).2.deep=p.deep+1:=by rw[e1]
  have HB:=HB e2;have a0:=HB _ hp1 hd1;have t1:=hB _ hp1;have hd3:=t1.deep;rw[hd1]at hd3;unfold xG;simp only;generalize (iL L p).2=p1 at*
  generalize (B p1).1=A at*
  generalize (B p1).2=p2 at*
  have hw:IntKind.i64.wrap ((p2.deep:Int)-1)=((p2.deep-1:Nat):Int):=by rw[wI];omega
  simp[q];apply gN [0] a0;simp;exact fK [0] [1] (by simp[hw])
 .rw[aB q];rw[aT]at q;simp[q];exact fH [0] [1] (by simp[uC,o_.enc,o_.j?,encS])
end
end Go.Gr
namespace Go.Gr
open Go.Abs Go.Proofs List
variable {d:Nat}
section
variable {L:List Tok}
def zEl(hL:C? L)(hl:lN L<=10000){ki:PS->f_ × PS}(hk:y_ L ki)(Hk:rU L d ki)(p:PS)(h:p.L_<lN L)(hd:p.deep=d):
  q_ Pg 226 [.c (.ptr 0 0)] [ic L p] (.c (.d (.sl oK 4 ((yw L ki (lN L+1) [] p).1.map f_.enc)))) [ic L (yw L ki (lN L+1) [] p).2]:=by
 refine zzo mD λts _e ok hb c hN hp=>?_;obtain⟨t,rfl⟩:=lK _e;let⟨F0,_y⟩:=oJ (yw L ki (lN L+1) [] p);rw[_y];unfold YS;simp;refine fT [.t 3] ?_;simp
 refine fM gm hp (λx:Nat × List f_ × PS=>yw L ki x.1 x.2.1 x.2.2=F0/\Tm L p x.2.2/\lN L<x.1+x.2.2.L_/\lN x.2.1<=x.2.2.L_)
  (λx=>[(0,.c (.ptr 0 0)),(3,.c (.x_ 4 2 0 (lN x.2.1)))])
  (λx=>[ic L x.2.2,.G_ t 0,.arr 4 ((x.2.1.map f_.enc).map (·.map .d))])
  (λx=>x.1) (lN L+1,[],p) [0,1,2] ⟨_y,Tm.refl h,qM,oC⟩ oC λ⟨n,l,q⟩ ⟨i1,i2,i3,i4⟩=>?_
 unfold YR;simp only at i1 i2 i4;have i3:lN L<n+q.L_:=i3;have _k:=i2.lt;obtain⟨n,rfl⟩:∃m,n=m+1:=⟨n-1,oM⟩
 rw[yw]at i1;have e1:=hk q _k;have le1:=e1.le;have a1:=Hk q _k (by rw[i2.deep,hd]);have a2:=kY (bs [44]) _ e1.lt hl;generalize (ki q).1=T at*
 generalize (ki q).2=q1 at*
 simp;refine gN [0] a1 ?_;simp;refine jV ?_;refine gN [0] a2 ?_;by_cases q2:(gU L (bs [44]) q1).1=tT
 .rw[aC q2]at i1;have hat:=(X_ q2).1;have e2:=e1.trans (iB hL e1.lt (s:=bs [44]));generalize (gU L (bs [44]) q1).2=q3 at*
  simp[q2];refine fE (n,l++[T],q3) [0,1,4] ⟨i1,i2.trans e2,qM,by simp;omega⟩ oC ?_;simp;exact aD oC
 .rw[aB q2,kH q2]at i1;rw[kH q2,<-i1];rw[aT]at q2;have a3:=nM hL (bs [93]) _ e1.lt hl;have z:take (lN l) (List.map ((λx=>List.map AC.d x)∘f_.enc) l)=List.map ((λx=>List.map AC.d x)∘f_.enc) l:=aD oC;simp[q2];refine fQ [4] ?_;simp[iE,z];refine gN [0] a3 ?_;have z2:take (lN l+1) (l.map f_.enc++[T.enc])=l.map f_.enc++[T.enc]:=aD oC;simp[iE,z];exact fK [0] [1] (by simp[iE,z,z2])
def zB3(hL:C? L)(hl:lN L<=10000){ex:PS->o_ × PS}(he:y_ L ex)(He:mQ L 148 d ex)(k:Int)(q0 p:PS)(h:p.L_<lN L)(hd:p.deep=d):
  q_ Pg 225 [.c (.ptr 0 0),.ag [.d (.int .i64 k),.d (.str (bs [])),.d (.int .i64 0),.d (.int .i64 (U_ L q0).line),.d (.int .i64 (U_ L q0).t_),.d (.sl tT 4 []),.d (.sl tT 1 []),.d (.sl tT 8 [])]] [ic L p] (.ag ((yL L ex q0 p).1.enc.map .d)) [ic L (yL L ex q0 p).2]:=by
 refine zxk mD λts _e ok hb c hN hp=>?_;obtain⟨t,rfl⟩:=lK _e;have a1:=kY (bs [125]) p h hl;unfold YU yL;simp;refine gN [0] a1 ?_;by_cases q1:(gU L (bs [125]) p).1=tT
 .rw[aC q1];simp[q1];exact fH [0] [1] (by simp[qf,encS])
 .rw [aB q1,kH q1];rw[aT]at q1;have hg:=Cc h;have hnx:p.e=0->(U_ L p).d_=1->L[p.L_+1]?=sS (L.getD (p.L_+1) Ai):=λ_ k1=>by
   have _k:p.L_+1<lN L:=hL.mid _ h (by unfold U_ at k1;omega);rw[aH,aA _k];try rfl
  have hnn:(0:Int)<=(p.L_:Int)+1:=oM;have hw:IntKind.i64.wrap ((p.L_:Int)+1)=((p.L_+1:Nat):Int):=by rw[wI];omega
  generalize hN1:L.getD (p.L_+1) Ai=N at*
  by_cases q2:p.e≠0\/(U_ L p).d_≠1\/N.d_≠5\/N.text≠bs [58]
  .rw [aC q2];have t1:=he p h;have t2:=t1.trans (iF hL t1.lt (s:=Fv));have t3:=t2.trans (kX hL t2.lt);have t4:=t3.trans (iF hL t3.lt (s:=bs [58]));have t5:=t4.trans (he _ t4.lt);have b1:=He p h hd;have b2:=nM hL Fv _ t1.lt hl;have b3:=zo _ t2.lt hl;have b4:=nM hL (bs [58]) _ t3.lt hl;have b5:=He _ t4.lt (by rw[t4.deep,hd]);have b6:=nM hL (bs [125]) _ t5.lt hl;simp only;generalize (ex p).1=A at*
   generalize (ex p).2=p1 at*
   generalize iH L Fv p1=p2 at*
   generalize (iG L p2).1=s at*
   generalize (iG L p2).2=p3 at*
   generalize iH L (bs [58]) p3=p4 at*
   generalize (ex p4).1=B at*
   generalize (ex p4).2=p5 at*
   generalize iH L (bs [125]) p5=p6 at*
   generalize U_ L p=T at*
   have _W:p.e≠0\/(p.e=0/\T.d_≠1)\/(p.e=0/\T.d_=1/\N.d_≠5)\/(p.e=0/\T.d_=1/\N.d_=5/\N.text≠bs [58]):=by
    by_cases x1:p.e=0
    .by_cases x2:T.d_=1
     .by_cases x3:N.d_=5
      .rcases q2 with q2|q2|q2|q2
       .exact absurd x1 q2
       .exact absurd x2 q2
       .exact absurd x3 q2
       .exact .inr (.inr (.inr ⟨x1,x2,x3,q2⟩))
      .exact .inr (.inr (.inl ⟨x1,x2,x3⟩))
     .exact .inr (.inl ⟨x1,x2⟩)
    .exact .inl x1
   have hw:IntKind.i64.wrap ((p.L_:Int)+1)=((p.L_+1:Nat):Int):=hw;rcases _W with x1|⟨x1,x2⟩|⟨x1,x2,x3⟩|⟨x1,x2,x3,x4⟩
   .simp[q1,hg,x1];refine oG ?_;refine oG ?_;refine gP [0] b1 (by simp[x1]) ?_;simp;refine gN [0] b2 ?_;simp;refine gN [0] b3 ?_;simp;refine gN [0] b4 ?_;simp;refine gN [0] b5 ?_;simp;refine gN [0] b6 ?_;simp;exact fH [0] [1] (by simp[qf,encS])
   .simp[q1,hg,x1,x2];refine oG ?_;refine oG ?_;refine gP [0] b1 (by simp[x1]) ?_;simp;refine gN [0] b2 ?_;simp;refine gN [0] b3 ?_;simp;refine gN [0] b4 ?_;simp;refine gN [0] b5 ?_;simp;refine gN [0] b6 ?_;simp;exact fH [0] [1] (by simp[qf,encS])
   .have hn:=hnx x1 x2;simp[q1,hg,x1,x2,x3,hn,hw,hnn];refine oG ?_;refine oG ?_;refine gP [0] b1 (by simp[x1]) ?_;simp;refine gN [0] b2 ?_;simp;refine gN [0] b3 ?_;simp;refine gN [0] b4 ?_;simp;refine gN [0] b5 ?_;simp;refine gN [0] b6 ?_;simp;exact fH [0] [1] (by simp[qf,encS])
   .have hn:=hnx x1 x2;simp[q1,hg,x1,x2,x3,x4,hn,hw,hnn];refine oG ?_;refine oG ?_;refine gP [0] b1 (by simp[x1]) ?_;simp;refine gN [0] b2 ?_;simp;refine gN [0] b3 ?_;simp;refine gN [0] b4 ?_;simp;refine gN [0] b5 ?_;simp;refine gN [0] b6 ?_;simp;exact fH [0] [1] (by simp[qf,encS])
  .rw[aB q2];have x1:p.e=0:=by
    apply bH;intro x;exact q2 (.inl x)
   have x2:(U_ L p).d_=1:=by
    apply bH;intro x;exact q2 (.inr (.inl x))
   have x3:N.d_=5:=by
    apply bH;intro x;exact q2 (.inr (.inr (.inl x)))
   have x4:N.text=bs [58]:=by
    apply bH;intro x;exact q2 (.inr (.inr (.inr x)))
   have hn:=hnx x1 x2;let⟨F0,_y⟩:=oJ (xH L ex (lN L+1) [] [] p);simp only;rw[_y];simp[q1,hg,x1,x2,x3,x4,hn,hw,hnn];refine oG ?_;refine oG ?_;refine fT [.c 2 6,.c 2 7] ?_;simp
   refine fM gm hp (λx:Nat × List fD × List o_ × PS=>xH L ex x.1 x.2.1 x.2.2.1 x.2.2.2=F0/\Tm L p x.2.2.2/\lN L<x.1+x.2.2.2.L_/\lN x.2.1=lN x.2.2.1/\lN x.2.1<=x.2.2.2.L_)
    (λx=>[(0,.c (.ptr 0 0)),(3,.c (.ptr 2 0)),(4,.c (.ptr 3 0))])
    (λx=>[ic L x.2.2.2,.G_ t 0,.box [.d (.int .i64 8),.d (.str (bs [])),.d (.int .i64 0),.d (.int .i64 (U_ L q0).line),.d (.int .i64 (U_ L q0).t_),.d (.sl tT 4 []),.x_ 1 4 0 (lN x.2.1),.x_ 8 5 0 (lN x.2.2.1)],BZ,.arr 1 ((encS x.2.1).map (·.map .d)),.arr 8 ((x.2.2.1.map o_.enc).map (·.map .d))])
    (λx=>x.1) (lN L+1,[],[],p) [0,1,2,3,5,6] ⟨_y,Tm.refl h,qM,rfl,oC⟩ (by simp[encS,x1]) λ⟨n,ns,ks,q⟩ ⟨i1,i2,i3,i4,i5⟩=>?_
   unfold YT;simp only at i1 i2 i4 i5;have i3:lN L<n+q.L_:=i3;have _k:=i2.lt;obtain⟨n,rfl⟩:∃m,n=m+1:=⟨n-1,oM⟩
   rw[xH]at i1;have e1:=kX hL _k;have e2:=e1.trans (iF hL e1.lt (s:=bs [58]));have e3:=e2.trans (he _ e2.lt);have e4:=e3.trans (iB hL e3.lt (s:=bs [44]));have c1:=zo q _k hl;have c2:=nM hL (bs [58]) _ e1.lt hl;have c3:=He _ e2.lt (by rw[e2.deep,i2.deep,hd]);have c4:=kY (bs [44]) _ e3.lt hl;generalize (iG L q).1=s1 at*
   generalize (iG L q).2=q1' at*
   generalize iH L (bs [58]) q1'=q2' at*
   generalize (ex q2').1=k1 at*
   generalize (ex q2').2=q3' at*
   simp;refine gN [0] c1 ?_;simp;refine gN [0] c2 ?_;simp;refine gN [0] c3 ?_;simp;refine⟨oM,oM,?_⟩;refine gN [0] c4 ?_;by_cases q5:(gU L (bs [44]) q3').1=tT
   .rw[aC q5]at i1;have ha:=(X_ q5).1;have hb':=e3.le;simp[q5];refine fE (n,ns++[s1],ks++[k1],(gU L (bs [44]) q3').2) [0,1,2,3,7,8] ⟨i1,i2.trans e4,qM,by simp[i4],by simp;omega⟩ oC ?_;simp;exact⟨aD oC,aD oC⟩
   .rw[aB q5,kH q5]at i1;rw[<-i1];have c5:=nM hL (bs [125]) _ e3.lt hl;rw[kH q5];rw[aT]at q5;simp[q5];refine fQ [7,8] ?_;have k1':take (lN ns) (List.map (λx=>List.map AC.d x) (encS ns))=List.map (λx=>List.map AC.d x) (encS ns):=aD oC;have k2':take (lN ks) (List.map ((λx=>List.map AC.d x)∘o_.enc) ks)=List.map ((λx=>List.map AC.d x)∘o_.enc) ks:=aD oC;simp[iE,k1',k2'];refine gN [0] c5 ?_;simp[iE,k1',k2'];have z1:D.O_ (take (lN ns+1) (encS ns++[[D.str s1]]))=encS ns++[[D.str s1]]:=by
     rw[aD oC];simpa only[zwK,zwL]using IX (ns++[s1])
    have z2:D.O_ (take (lN ks+1) (ks.map o_.enc++[k1.enc]))=ks.map o_.enc++[k1.enc]:=by
     rw[aD oC];simpa using zJQ (ks++[k1])
    exact fH [0] [1] (by simp[qf,iE,k1',k2',z1,z2])
end
variable {n:Int}
def xK(s:fD):lN s.data.toList=s.size:=by rw[eY];try rfl
def zt{s:fD}{j:Nat}(h:j<lN s.data.toList):s.data[j]?=sS s.data.toList[j]:=by
 simp at h⊢
def wrap_u64(h1:0<=n)(h2:n<=18446744073709551615):IntKind.u64.wrap n=n:=LZ (by simpa[IntKind.min,IntKind.bits,IntKind.signed]using h1) (by simpa[IntKind.max,IntKind.bits,IntKind.signed]using h2)
def wrap_u8(h1:0<=n)(h2:n<=255):IntKind.u8.wrap n=n:=LZ (by simpa[IntKind.min,IntKind.bits,IntKind.signed]using h1) (by simpa[IntKind.max,IntKind.bits,IntKind.signed]using h2)
def zHa(j:Nat):10^(j+1)=10*10^j:=by rw[Nat.pow_succ];omega
def zx0(s:fD):h_ Pg 196 [.one (.str s)] (.a? [.one (.int .i64 (zf s).1),.one (.bool (zf s).2)]):=by
 refine zzh oC λo c hN hp=>?_;have hs:s.size<=zaf:=by have:=o.1;simpa only[DV.ok,D.ok]using this
 unfold zaf at hs;have hlen:=xK s;unfold Xc;by_cases h0:s.size=0
 .have e:zf s=(0,oK):=by unfold zf Ei;rw[aC (by left;omega)]
  have h0':(s.size:Int)=0:=oM;rw[e];simp[h0,h0']
 by_cases h19:19<s.size
 .have e:zf s=(0,oK):=by unfold zf Ei;rw[aC (by right;left;omega)]
  have h0':¬(s.size:Int)=0:=oM;have h19':(19:Int)<s.size:=oM;rw[e];simp[h0,h0',h19']
 have h0':¬(s.size:Int)=0:=oM;have h19':¬(19:Int)<s.size:=oM;have hj0:0<lN s.data.toList:=oM;have _u:=zt hj0;have hd0:s.data.toList.head?=sS s.data.toList[0]:=by
  rw[head?_eq_getElem?,aA hj0]
 generalize hB:s.data.toList[0]=b0 at _u hd0;by_cases hz:b0=48/\1<s.size
 .have e:zf s=(0,oK):=by unfold zf Ei;rw[aC (by right;right;rw[hd0,hz.1];exact⟨rfl,oM⟩)]
  have h1:(1:Int)<s.size:=oM;rw[e];simp[h0,h0',h19',_u,hz.1,h1]
 have hz':¬((b0.toNat:Int)=48/\(1:Int)<s.size):=by
  rintro⟨x,y⟩
  exact hz ⟨by apply dm.mp;simpa using (by omega:b0.toNat=48),oM⟩
 have e:zf s=match xF s.data.toList 0 with
  |none=>(0,oK)
  |some n=>if 9223372036854775807<n then(0,oK)else((n:Int),tT):=by
  unfold zf Ei;have hn:¬(lN s.data.toList=0\/19<lN s.data.toList\/(s.data.toList.head?=sS 48/\1<lN s.data.toList)):=by
   rintro(x|x|⟨x,y⟩)
   .omega
   .omega
   .rw[hd0]at x;exact hz ⟨uM x,oM⟩
  rw[aB hn];try(cases xF s.data.toList 0<;>rfl)
 rw[e];have hgo:∀K:Prop,K=K:=λ_=>rfl;by_cases q1:(b0.toNat:Int)=48<;>by_cases q2:(1:Int)<s.size
 .exact absurd ⟨q1,q2⟩ hz'
 all_goals
  simp[h0,h0',h19',_u,q1,q2];refine fM gm hp (λx:Nat × Nat=>x.1<=s.size/\x.2<10^x.1/\xF (s.data.toList.drop x.1) x.2=xF s.data.toList 0) (λx=>[(0,.c (.d (.str s))),(4,.c (.d (.int .u64 x.2))),(5,.c (.d (.int .i64 x.1)))]) (λ_=>[]) (λx=>s.size-x.1) (0,0) [] ⟨oC,oC,oC⟩ oC λ⟨j,n⟩ ⟨i1,i2,i3⟩=>?_;unfold Xb;simp only at i1 i2 i3;simp;apply gM<;>intro h
  .have hj:j<s.size:=uM h;have _q:j<lN s.data.toList:=oM;rw[aF _q,xF]at i3;have hb:=zt _q;generalize s.data.toList[j]=b at i3 hb;by_cases d1:(b.toNat:Int)<48
   .have hd:¬jG b=tT:=by simp[jG,rT];omega
    rw[aB hd]at i3;rw[<-i3];simp[hb,d1]
   .by_cases d2:(57:Int)<b.toNat
    .have hd:¬jG b=tT:=by simp[jG,rT];omega
     rw[aB hd]at i3;rw[<-i3];simp[hb,d1,d2]
    .have hd:jG b=tT:=by simp[jG,rT];omega
     rw[aC hd]at i3;have hpw:10^(j+1)<=10^19:=Nat.pow_le_pow_right oM oM;have hps:=zHa j;have w1:IntKind.u64.wrap (10*(n:Int))=((10*n:Nat):Int):=by rw[wrap_u64 oM oM];omega
     have w2:IntKind.u8.wrap ((b.toNat:Int)-48)=((b.toNat-48:Nat):Int):=by rw[wrap_u8 oM oM];omega
     have w3:IntKind.u64.wrap (((b.toNat-48:Nat):Int))=((b.toNat-48:Nat):Int):=by rw[wrap_u64 oM oM]
     have w4:IntKind.u64.wrap (((10*n:Nat):Int)+((b.toNat-48:Nat):Int))=((10*n+(b.toNat-48):Nat):Int):=by rw[wrap_u64 oM oM];omega
     simp[hb,d1,d2];apply fE (j+1,10*n+(b.toNat-48)) [] ⟨qM,qM,i3⟩ qM;simp only[w1,w2,w3,w4];simp;exact wI
  .have hj:j=s.size:=oI h;subst hj;rw[bR oM,xF]at i3;rw[<-i3];simp only;have hpw:10^s.size<=10^19:=Nat.pow_le_pow_right oM oM;by_cases hm:9223372036854775807<n
   .have hm':(9223372036854775807:Int)<n:=oM;rw[aC hm];simp[hm,hm']
   .have hm':¬(9223372036854775807:Int)<n:=oM;rw[aB hm];simp[hm,hm'];exact wI
end Go.Gr
namespace Go.Gr
open Go.Abs Go.Proofs
section
variable {L:List Tok}
def zHl(hL:C? L)(hl:lN L<=10000){d:Nat}{ki:PS->f_ × PS}{ex:PS->o_ × PS}(hk:y_ L ki)(Hk:rU L d ki)(he:y_ L ex)(He:mQ L 148 d ex):
  mQ L 224 d (zk L ki ex):=by
 intro p h hd;refine zBW mD λts _e ok hb c hN hp=>?_;obtain⟨t,rfl⟩:=lK _e;have a0:=IY (L:=L) 2 p h;have hg:=Cc h;have hw:IntKind.i64.wrap ((p.L_:Int)+1)=((p.L_+1:Nat):Int):=by rw[wI];omega
 have hpz:=zx0 (U_ L p).text;unfold YQ zk Jh;simp only;by_cases c1:p.e=0/\(U_ L p).d_=3
 .rw[aC c1];let⟨x1,x2⟩:=c1;simp;refine gN [0] a0 ?_;simp[hg,x1,x2,hw];refine oG ?_;refine gQ hpz ?_;simp;exact fH [0] [1] (by simp[qf,encS,x1])
 rw[aB c1];by_cases c2:p.e=0/\(U_ L p).d_=4
 .rw[aC c2];let⟨x1,x2⟩:=c2;simp;refine gN [0] a0 ?_;simp[hg,x1,x2,hw];refine oG ?_;exact fH [0] [1] (by simp[qf,encS,x1])
 rw[aB c2];have d1:=kY Fw p h hl;have d2:=kY Fx p h hl;have d3:=kY Fy p h hl;have d4:=kY BR p h hl;have d5:=kY Aj p h hl;have d6:=kY (bs [40]) p h hl;have d7:=kY (bs [123]) p h hl;have d8:=zo p h hl;have n1:p.e=0->¬(U_ L p).d_=3:=λx y=>c1 ⟨x,y⟩;have n2:p.e=0->¬(U_ L p).d_=4:=λx y=>c2 ⟨x,y⟩;simp;refine gN [0] a0 ?_;by_cases x:p.e=0;simp[hg,x,n1 x,n2 x];rotate_left;simp[hg,x]
 all_goals
  refine oG ?_;refine gP [0] d1 (by simp[x]) ?_;by_cases q1:(gU L Fw p).1=tT
  .rw[aC q1];simp[q1];exact fH [0] [1] (by simp[qf,encS])
  rw[aB q1,kH q1];rw[aT]at q1;simp[q1];refine gN [0] d2 ?_;by_cases q2:(gU L Fx p).1=tT
  .rw[aC q2];simp[q2];exact fH [0] [1] (by simp[qf,encS])
  rw[aB q2,kH q2];rw[aT]at q2;simp[q2];refine gN [0] d3 ?_;by_cases q3:(gU L Fy p).1=tT
  .rw[aC q3];simp[q3];exact fH [0] [1] (by simp[qf,encS])
  rw[aB q3,kH q3];rw[aT]at q3;simp[q3];refine gN [0] d4 ?_;by_cases q4:(gU L BR p).1=tT
  .rw[aC q4];have t1:=iB hL h (s:=BR);have t2:=t1.trans (iF hL t1.lt (s:=bs [40]));have b1:=nM hL (bs [40]) _ t1.lt hl;have b2:=nM hL (bs [41]) _ t2.lt hl;generalize (gU L BR p).2=p1 at*
   generalize iH L (bs [40]) p1=p2 at*
   generalize iH L (bs [41]) p2=p3 at*
   simp[q4];refine gN [0] b1 ?_;simp;refine gN [0] b2 ?_;simp;exact fH [0] [1] (by simp[qf,encS])
  rw[aB q4,kH q4];rw[aT]at q4;simp[q4];refine gN [0] d5 ?_;by_cases q5:(gU L Aj p).1=tT
  .rw[aC q5];have t1:=iB hL h (s:=Aj);have t2:=t1.trans (iF hL t1.lt (s:=bs [40]));have t3:=t2.trans (he _ t2.lt);have b1:=nM hL (bs [40]) _ t1.lt hl;have b2:=He _ t2.lt (by rw[t2.deep,hd]);have b3:=nM hL (bs [41]) _ t3.lt hl;generalize (gU L Aj p).2=p1 at*
   generalize iH L (bs [40]) p1=p2 at*
   generalize (ex p2).1=A at*
   generalize (ex p2).2=p3 at*
   generalize iH L (bs [41]) p3=p4 at*
   simp[q5];refine gN [0] b1 ?_;simp;refine gN [0] b2 ?_;simp;refine gN [0] b3 ?_;simp;exact fH [0] [1] (by simp[qf,encS])
  rw[aB q5,kH q5];rw[aT]at q5;simp[q5];refine gN [0] d6 ?_;by_cases q6:(gU L (bs [40]) p).1=tT
  .rw[aC q6];have t1:=iB hL h (s:=bs [40]);have t2:=t1.trans (he _ t1.lt);have b1:=He _ t1.lt (by rw[t1.deep,hd]);have b2:=nM hL (bs [41]) _ t2.lt hl;generalize (gU L (bs [40]) p).2=p1 at*
   generalize (ex p1).1=A at*
   generalize (ex p1).2=p2 at*
   generalize iH L (bs [41]) p2=p3 at*
   simp[q6];refine gN [0] b1 ?_;simp;refine gN [0] b2 ?_;simp;exact fJ [0] [1]
  rw[aB q6,kH q6];rw[aT]at q6;simp[q6];refine gN [0] d7 ?_;by_cases q7:(gU L (bs [123]) p).1=tT
  .rw[aC q7];have t1:=iB hL h (s:=bs [123]);have b1:=zB3 hL hl he He 2 p _ t1.lt (by rw[t1.deep,hd]);generalize (gU L (bs [123]) p).2=p1 at*
   generalize (yL L ex p p1).1=A at*
   generalize (yL L ex p p1).2=p2 at*
   simp[q7];refine gN [0] b1 ?_;simp;exact fJ [0] [1]
  rw[aB q7,kH q7];rw[aT]at q7;have t1:=kX hL h;have b1:=kY (bs [91]) _ t1.lt hl;generalize (iG L p).1=s1 at*
  generalize (iG L p).2=p1 at*
  simp[q7];refine gN [0] d8 ?_;simp;refine gN [0] b1 ?_;by_cases q8:(gU L (bs [91]) p1).1=tT
  .rw[aC q8];have t2:=t1.trans (iB hL t1.lt (s:=bs [91]));have b2:=zEl hL hl hk Hk _ t2.lt (by rw[t2.deep,hd]);generalize (gU L (bs [91]) p1).2=p2 at*
   generalize (yw L ki (lN L+1) [] p2).1=T at*
   generalize (yw L ki (lN L+1) [] p2).2=p3 at*
   simp[q8];refine gN [0] b2 ?_;simp;exact fH [0] [1] (by simp[qf,encS])
  rw[aB q8,kH q8];rw[aT]at q8;simp[q8];exact fH [0] [1] (by simp[qf,encS])
def zEW(hL:C? L)(hl:lN L<=10000):∀(n:Nat) (d:Nat),d<=100->101<=d+n->mQ L 148 d (xI L (xx L) n).1/\mQ L 215 d (xI L (xx L) n).2
|0,d,h1,h2=>by omega
| n+1,d,h1,h2=>by
 have hk:y_ L (xx L):=Qh hL 102;have ht:=Jn hL hk n;have htn:=Jn hL hk (n+1);rw[xI]at htn⊢;by_cases hd:d=100
 .subst hd;have hr:=Jl hL hk ht.2;refine⟨λp h hdp=>?_,λp h hdp=>?_⟩
  .exact zxE hL hl (Qi hL hk ht.1 hr.2.2.2.2.2) p h oM (λq=>absurd q oM)
  .exact zu9 hL hl hk ht.1 ht.2 p h oM (λq=>absurd q oM) (λq=>absurd q oM)
 .have ih:=zEW hL hl n (d+1) oM oM;have Hk:rU L (d+1) (xx L):=λr hr hd=>Qn hL hl 102 r hr oM oM;have Ha:=zHl hL hl hk Hk ht.1 ih.1;have Hp:=zGU hL hl (M6 hL hk ht.1) Ha ht.1 ih.1;have H6:=zDQ ih.2;have hr:=Jl hL hk ht.2;have H5:=Jq hL hl (k:=5) oD oD ht.2 H6;have H4:=Jq hL hl (k:=4) oD oD hr.1 H5;have H3:=Jq hL hl (k:=3) oD oD hr.2.1 H4;have H2:=zDR (zIk hL hl hk Hk hr.2.2.1 H3);have H1:=Jq hL hl (k:=1) oD oD hr.2.2.2.1 H2;have H0:=Jq hL hl (k:=0) oD oD hr.2.2.2.2.1 H1;refine⟨λp h hdp=>?_,λp h hdp=>?_⟩
  .subst hdp;exact zxE hL hl (Qi hL hk ht.1 hr.2.2.2.2.2) p h oM (λ_ q hq hdq=>zFX hL hl hk Hk ht.1 ih.1 H0 q hq hdq)
  .subst hdp;exact zu9 hL hl hk ht.1 ht.2 p h oM (λ_=>ih.2) (λ_=>Hp)
end
end Go.Gr
