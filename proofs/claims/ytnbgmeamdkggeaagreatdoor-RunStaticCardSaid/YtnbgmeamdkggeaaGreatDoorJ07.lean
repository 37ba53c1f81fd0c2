/- Texts of ours, joined and written short by a program of ours. -/
import Derived.Test.YtnbgmeamdkggeaaGreatDoorJ06
set_option maxRecDepth 20000
set_option maxHeartbeats 4000000
set_option linter.unusedVariables false
set_option linter.unusedSectionVars false
set_option linter.unusedSimpArgs false
set_option linter.defProp false
set_option linter.unnecessarySimpa false
namespace Go.Gr
open Go.Abs Go.Proofs
def bA(l:List UInt8):di:=⟨l.toArray⟩
def tJ(c:Int):Bool:=decide (97<=c/\c<=122\/65<=c/\c<=90\/c=95)
def ou(c:Int):Bool:=decide (48<=c/\c<=57)
def lZ(b:UInt8):Bool:=tJ b.toNat
def jo(b:UInt8):Bool:=ou b.toNat
def iB:Bool->List UInt8->Nat
|_,[]=>0
|true,c::l=>iB (decide (c≠10)) l+1
|false,c::l=>if c=35 then iB true l+1 else if c=32\/c=9\/c=10\/c=13 then iB false l+1 else 0
def iM(num:Bool):List UInt8->Nat
|[]=>0
|b::l=>if(jo b||(!num&&lZ b))=true then iM num l+1 else 0
def lG:List UInt8->Option (List UInt8 × Nat)
|[]=>none
|c::l=>if c=34 then some ([],1)else if c<32 then none else if c≠92 then(lG l).map λx=>(c::x.1,x.2+1)else
 match l with
 |[]=>none
 |d::l=>if d=92\/d=34 then(lG l).map λx=>(d::x.1,x.2+2)else if d=110 then(lG l).map λx=>(10::x.1,x.2+2)else if d=116 then(lG l).map λx=>(9::x.1,x.2+2)else none
def wE:List (List UInt8):=[[45,62],[61,62],[60,58],[60,60],[60,61],[62,62],[61,61],[43,43]]
def mg:List UInt8:=[40,41,123,125,91,93,44,58,59,61,43,45,42,47,37,38,94,60,124,46]
def yY(l:List UInt8):Nat:=if(wE.any λt=>decide (l.take 2=t))=true then 2 else match l with
|[]=>0
|c::_=>if c∈mg then 1 else 0
def tK:List UInt8->Nat->Option Nat
|[],n=>some n
|c::l,n=>if jo c=true then tK l (10*n+(c.toNat-48))else none
def Ag(l:List UInt8):Int × Bool:=
 if l.length=0\/19<l.length\/(l.head?=some 48/\1<l.length)then(0,false)else match tK l 0 with
 |none=>(0,false)
 |some n=>if 9223372036854775807<n then(0,false)else(n,true)
def wF(s:di):Int × Bool:=Ag s.data.toList
def Es:List di:=[bs [97,110,100],bs [97,110,121],bs [97,115],bs [98,111,111,108],bs [101,108,115,101],bs [101,120,112,111,114,116],bs [102,97,108,115,101],bs [102,110],bs [102,117,110,99,116,105,111,110],bs [105,102],bs [105,109,112,111,114,116],bs [105,110],bs [105,110,116],bs [105,115],bs [108,101,116],bs [110,111,116],bs [110,117,108,108],bs [111,114],bs [112,114,105,110,116],bs [114,101,97,100],bs [114,101,99,111,114,100],bs [115,116,114],bs [116,104,101,110],bs [116,114,117,101],bs [119,105,116,104]]
def zW(s:di):Bool:=Es.any λw=>decide (w=s)
def mJ(s:di):Bool:=match s.data.toList with
|[]=>false
|c::l=>decide (s.size<=32)&&(!zW s&&(!jo c&&(c::l).all λb=>lZ b||jo b))
structure oD where
 kind:Int
 text:List UInt8
 len:Nat
 e:Int
def kF(e:Int):oD:=⟨0,[],0,e⟩
def iK:List UInt8->oD
|[]=>kF 5
| c::r=>
 if lZ c=true then
  (if 32<iM false (c::r)then kF 2 else⟨if zW (bA ((c::r).take (iM false (c::r))))=true then 2 else 1,(c::r).take (iM false (c::r)),iM false (c::r),0⟩)
 else if jo c=true then
  (if(Ag ((c::r).take (iM true (c::r)))).2=true then⟨3,(c::r).take (iM true (c::r)),iM true (c::r),0⟩else kF 3)
 else if c=34 then(match lG r with
  |none=>kF 4
  |some (t,n)=>if 256<t.length then kF 2 else⟨4,t,n+1,0⟩)
 else if yY (c::r)=0 then kF 5 else⟨5,(c::r).take (yY (c::r)),yY (c::r),0⟩
def o8:List UInt8->Int->Int->Int × Int
|[],a,b=>(a,b)
|c::l,a,b=>if c=10 then o8 l (a+1) 1 else o8 l a (b+1)
structure iA where
 module:Int
 line:Int
 col:Int
 e:Int
def iA.enc(d:iA):List D:=[.int .i64 d.module,.int .i64 d.line,.int .i64 d.col,.int .i64 d.e]
def Lc:iA:=⟨0,0,0,0⟩
def oF:Nat->List UInt8->Int->Int->List Tok->List Tok × iA
|0,_,_,_,ts=>(ts,Lc)
| n+1,l,a,b,ts=>
 let q:=o8 (l.take (iB false l)) a b;let l':=l.drop (iB false l)
 if l'=[]then(ts++[⟨0,bs [],q.1,q.2⟩],Lc)
 else
  let t:=iK l';let e:=if t.e=0/\ts.length=8192 then 19 else t.e
  if e≠0 then([],⟨0,q.1,q.2,e⟩)else oF n (l'.drop t.len) q.1 (q.2+t.len) (ts++[⟨t.kind,bA t.text,q.1,q.2⟩])
def kX(s:di):List Tok × iA:=if 65536<s.size then([],⟨0,1,1,2⟩)else oF (s.size+1) s.data.toList 1 1 []
structure PS where
  at':Nat
  deep:Nat
  e:Int
  line:Int
  col:Int
section
variable (L:List Tok)
def gU(p:PS):Tok:=L.getD p.at' wC
def vO(e:Int)(p:PS):PS:=if p.e=0 then {p with e:=e,line:=(gU L p).line,col:=(gU L p).col}else p
def Di(s:di)(p:PS):Bool:=decide (p.e=0)&&((decide ((gU L p).kind=2)||decide ((gU L p).kind=5))&&decide ((gU L p).text=s))
def gG(s:di)(p:PS):Bool × PS:=if Di L s p=true then(true,{p with at':=p.at'+1})else(false,p)
def iV(s:di)(p:PS):PS:=if(gG L s p).1=true then(gG L s p).2 else vO L 7 p
def iN(p:PS):di × PS:=if p.e=0/\(gU L p).kind=1 then((gU L p).text,{p with at':=p.at'+1})else(bs [],vO L 7 p)
def x9(p:PS):PS:=if 100<=p.deep then vO L 6 p else p
def ic(p:PS):Bool × PS:=if(x9 L p).e≠0 then(false,x9 L p)else(true,{x9 L p with deep:=p.deep+1})
end
section
variable (L:List Tok)
def wG:List di:=[bs [97,110,121],bs [110,117,108,108],bs [98,111,111,108],bs [105,110,116],bs [115,116,114]]
def uh:Nat->List di->PS->Option (Nat × PS)
 |_,[],_=>none
 |i,s::l,p=>if(gG L s p).1=true then some (i,(gG L s p).2)else uh (i+1) l p
def zX (ki:PS->fZ × PS):Nat->List di->List fZ->PS->(List di × List fZ) × PS
 |0,ns,ks,p=>((ns,ks),p)
 | n+1,ns,ks,p=>
   let a:=iN L p;let k:=ki (iV L (bs [58]) a.2);let m:=gG L (bs [44]) k.2
   if m.1=true then zX ki n (ns++[a.1]) (ks++[k.1]) m.2 else((ns++[a.1],ks++[k.1]),m.2)
def Et (ki:PS->fZ × PS) (p:PS):fZ × PS:=
   if(gG L (bs [40]) p).1=true then((ki (gG L (bs [40]) p).2).1,iV L (bs [41]) (ki (gG L (bs [40]) p).2).2)
   else if(gG L (bs [123]) p).1=true then
     (if(gG L (bs [125]) (gG L (bs [123]) p).2).1=true then(.mk 5 (bs []) [] [],(gG L (bs [125]) (gG L (bs [123]) p).2).2)
     else(.mk 5 (bs []) (zX L ki (L.length+1) [] [] (gG L (bs [123]) p).2).1.1 (zX L ki (L.length+1) [] [] (gG L (bs [123]) p).2).1.2,iV L (bs [125]) (zX L ki (L.length+1) [] [] (gG L (bs [123]) p).2).2))
   else(.mk 8 (iN L p).1 [] [],(iN L p).2)
def qX(ki:PS->fZ × PS)(p:PS):fZ × PS:=match uh L 0 wG p with
 |some (i,q)=>(.mk i (bs []) [] [],q)
 |none=>Et L ki p
def qY (ki:PS->fZ × PS):Nat->List fZ->PS->List fZ × PS
 |0,l,p=>(l,p)
 | n +1,l,p=>if(gG L (bs [124]) p).1=true then
     let t:=qX L ki (gG L (bs [124]) p).2
     qY ki n (l++[t.1]) t.2
   else(l,p)
def Ld:List fZ->fZ
 |[t]=>t
 |l=>.mk 7 (bs []) [] l
def zD3{l:List fZ}(h:l.length≠1):Ld l=.mk 7 (bs []) [] l:=by
 match l,h with
 |[],_=>rfl
 |_::_::_,_=>rfl
def qA(ki:PS->fZ × PS)(p:PS):fZ × PS:=
 let a:=qX L ki p;let r:=qY L ki (L.length+1) [a.1] a.2
 (Ld r.1,r.2)
def Eu(ki:PS->fZ × PS)(p:PS):fZ × PS:=
 let a:=qA L ki p;let m:=gG L (bs [45,62]) a.2
 if m.1=true then(.mk 6 (bs []) [] [a.1,(ki m.2).1],(ki m.2).2)else(a.1,m.2)
def tL{α:Type}(x:α × PS):α × PS:=(x.1,{x.2 with deep:=x.2.deep-1})
def vP:Nat->PS->fZ × PS
 |0=>λp=>(noT,p)
 |d+1=>λp=>if(ic L p).1=true then tL (Eu L (vP d) (ic L p).2)else(noT,(ic L p).2)
def o9(ki:PS->fZ × PS)(p:PS):List fZ × PS:=if(gG L (bs [58]) p).1=true then([(ki (gG L (bs [58]) p).2).1],(ki (gG L (bs [58]) p).2).2)else([],p)
end
section
variable (L:List Tok)
def kM(p:PS)(k:Int)(t:di)(n:Int)(ts:List fZ)(ns:List di)(ks:List fo):fo:=.mk k t n (gU L p).line (gU L p).col ts ns ks
abbrev rW:=bs [108,101,116]
abbrev zY:=bs [105,102]
abbrev Bh:=bs [116,104,101,110]
abbrev Bi:=bs [101,108,115,101]
abbrev sP:=bs [102,110]
def qZ(ki:PS->fZ × PS)(p:PS):(di × List fZ) × PS:=
 let s:=iN L (iV L (bs [40]) p);let a:=o9 L ki s.2;let b:=o9 L ki (iV L (bs [41]) a.2)
 ((s.1,(if a.1.length=0 then [noT]else a.1)++b.1),b.2)
def yZ (ki:PS->fZ × PS) (ex rk:PS->fo × PS) (p:PS):fo × PS:=
 if(gG L rW p).1=true then
   let s:=iN L (gG L rW p).2;let t:=o9 L ki s.2;let v:=ex (iV L (bs [61]) t.2);let b:=ex (iV L (bs [59]) v.2)
   (kM L p 5 s.1 0 t.1 [] [v.1,b.1],b.2)
 else if(gG L zY p).1=true then
   let c:=ex (gG L zY p).2;let a:=ex (iV L Bh c.2);let b:=ex (iV L Bi a.2)
   (kM L p 11 (bs []) 0 [] [] [c.1,a.1,b.1],b.2)
 else if(gG L sP p).1=true then
   let h:=qZ L ki (gG L sP p).2;let b:=ex (iV L (bs [61,62]) h.2)
   (kM L p 6 h.1.1 0 h.1.2 [] [b.1],b.2)
 else rk p
def uO:List di->PS->Option (di × PS)
 |[],_=>none
 |s::l,p=>if(gG L s p).1=true then some (s,(gG L s p).2)else uO l p
def kN (rk:PS->fo × PS) (signs:List di):Nat->fo->PS->fo × PS
 |0,a,p=>(a,p)
 | n+1,a,p=>match uO L signs p with
   |none=>(a,p)
   |some (s,q)=>kN rk signs n (kM L p 14 s 0 [] [] [a,(rk q).1]) (rk q).2
def qb:Nat->List di
 |0=>[bs [111,114]]
 |1=>[bs [97,110,100]]
 |3=>[bs [43,43]]
 |4=>[bs [43],bs [45],bs [94]]
 |5=>[bs [42],bs [47],bs [37],bs [38],bs [60,60],bs [62,62]]
 |_=>[]
def wH:List di:=[bs [110,117,108,108],bs [98,111,111,108],bs [105,110,116],bs [115,116,114],bs [114,101,99,111,114,100],bs [102,117,110,99,116,105,111,110]]
def qc (ki:PS->fZ × PS) (rk:PS->fo × PS) (p:PS):fo × PS:=
 let a:=rk p
 match uO L [bs [60],bs [60,61],bs [61,61]] a.2 with
 |some (s,q)=>(kM L a.2 14 s 0 [] [] [a.1,(rk q).1],(rk q).2)
 | none=>
   if(gG L (bs [97,115]) a.2).1=true then
     let t:=ki (gG L (bs [97,115]) a.2).2
     (kM L a.2 13 (bs []) 0 [t.1] [] [a.1],t.2)
   else if(gG L (bs [105,115]) a.2).1=true then
     match uh L 0 wH (gG L (bs [105,115]) a.2).2 with
     |some (i,q)=>(kM L a.2 12 (bs []) i [] [] [a.1],q)
     |none=>(kM L a.2 12 (bs []) 0 [] [] [a.1],vO L 7 (gG L (bs [105,115]) a.2).2)
   else a
def Bj(un:PS->fo × PS)(p:PS):fo × PS:=kN L un (qb 5) (L.length+1) (un p).1 (un p).2
def Bl(un:PS->fo × PS)(p:PS):fo × PS:=kN L (Bj L un) (qb 4) (L.length+1) (Bj L un p).1 (Bj L un p).2
def Ev(un:PS->fo × PS)(p:PS):fo × PS:=kN L (Bl L un) (qb 3) (L.length+1) (Bl L un p).1 (Bl L un p).2
def Bn(ki:PS->fZ × PS)(un:PS->fo × PS)(p:PS):fo × PS:=qc L ki (Ev L un) p
def Bo(ki:PS->fZ × PS)(un:PS->fo × PS)(p:PS):fo × PS:=kN L (Bn L ki un) (qb 1) (L.length+1) (Bn L ki un p).1 (Bn L ki un p).2
def Ew(ki:PS->fZ × PS)(un:PS->fo × PS)(p:PS):fo × PS:=kN L (Bo L ki un) (qb 0) (L.length+1) (Bo L ki un p).1 (Bo L ki un p).2
def vQ (ki:PS->fZ × PS):Nat->List fZ->PS->List fZ × PS
 |0,l,p=>(l,p)
 | n+1,l,p=>
   let t:=ki p;let m:=gG L (bs [44]) t.2
   if m.1=true then vQ ki n (l++[t.1]) m.2 else(l++[t.1],iV L (bs [93]) m.2)
def qw (ex:PS->fo × PS):Nat->List di->List fo->PS->(List di × List fo) × PS
 |0,ns,ks,p=>((ns,ks),p)
 | n+1,ns,ks,p=>
   let s:=iN L p;let k:=ex (iV L (bs [58]) s.2);let m:=gG L (bs [44]) k.2
   if m.1=true then qw ex n (ns++[s.1]) (ks++[k.1]) m.2 else((ns++[s.1],ks++[k.1]),m.2)
abbrev Bp:=bs [119,105,116,104]
def ui (ex:PS->fo × PS) (q p:PS):fo × PS:=
 if(gG L (bs [125]) p).1=true then(kM L q 8 (bs []) 0 [] [] [],(gG L (bs [125]) p).2)
 else if p.e≠0\/(gU L p).kind≠1\/(L.getD (p.at'+1) wC).kind≠5\/(L.getD (p.at'+1) wC).text≠bs [58]then
   let a:=ex p;let s:=iN L (iV L Bp a.2);let b:=ex (iV L (bs [58]) s.2)
   (kM L q 10 s.1 0 [] [] [a.1,b.1],iV L (bs [125]) b.2)
 else
   let r:=qw L ex (L.length+1) [] [] p
   (kM L q 8 (bs []) 0 [] r.1.1 r.1.2,iV L (bs [125]) r.2)
end
section
variable (L:List Tok)
abbrev Bq:=bs [116,114,117,101]
abbrev Br:=bs [102,97,108,115,101]
abbrev Bt:=bs [110,117,108,108]
abbrev xc:=bs [114,101,97,100]
abbrev xA:=bs [112,114,105,110,116]
def Ex(s:di):Int:=(wF s).1
def wJ (ki:PS->fZ × PS) (ex:PS->fo × PS) (p:PS):fo × PS:=
 if p.e=0/\(gU L p).kind=3 then(kM L p 0 (bs []) (Ex (gU L p).text) [] [] [],{p with at':=p.at'+1})
 else if p.e=0/\(gU L p).kind=4 then(kM L p 1 (gU L p).text 0 [] [] [],{p with at':=p.at'+1})
 else if(gG L Bq p).1=true then(kM L p 2 (bs []) 1 [] [] [],(gG L Bq p).2)
 else if(gG L Br p).1=true then(kM L p 2 (bs []) 0 [] [] [],(gG L Br p).2)
 else if(gG L Bt p).1=true then(kM L p 3 (bs []) 0 [] [] [],(gG L Bt p).2)
 else if(gG L xc p).1=true then(kM L p 18 (bs []) 0 [] [] [],iV L (bs [41]) (iV L (bs [40]) (gG L xc p).2))
 else if(gG L xA p).1=true then
   let k:=ex (iV L (bs [40]) (gG L xA p).2)
   (kM L p 17 (bs []) 0 [] [] [k.1],iV L (bs [41]) k.2)
 else if(gG L (bs [40]) p).1=true then((ex (gG L (bs [40]) p).2).1,iV L (bs [41]) (ex (gG L (bs [40]) p).2).2)
 else if(gG L (bs [123]) p).1=true then ui L ex p (gG L (bs [123]) p).2
 else
   let s:=iN L p
   if(gG L (bs [91]) s.2).1=true then
     let t:=vQ L ki (L.length+1) [] (gG L (bs [91]) s.2).2
     (kM L p 19 s.1 0 t.1 [] [],t.2)
   else(kM L p 4 s.1 0 [] [] [],s.2)
def rY (ex:PS->fo × PS):Nat->fo->PS->fo × PS
 |0,a,p=>(a,p)
 | n +1,a,p=>
   if(gG L (bs [40]) p).1=true then
     let b:=ex (gG L (bs [40]) p).2
     rY ex n (kM L p 7 (bs []) 0 [] [] [a,b.1]) (iV L (bs [41]) b.2)
   else if(gG L (bs [46]) p).1=true then
     let s:=iN L (gG L (bs [46]) p).2
     rY ex n (kM L p 9 s.1 0 [] [] [a]) s.2
   else(a,p)
def Bu(ki:PS->fZ × PS)(ex:PS->fo × PS)(p:PS):fo × PS:=
 let a:=wJ L ki ex p
 rY L ex (L.length+1) a.1 a.2
abbrev r9:=bs [110,111,116]
def y5 (ki:PS->fZ × PS) (ex un:PS->fo × PS) (p:PS):fo × PS:=
 if(gG L (bs [45]) p).1=true then
   let k:=un (gG L (bs [45]) p).2
   (kM L p 16 (bs []) 0 [] [] [k.1],k.2)
 else if(gG L r9 p).1=true then
   let k:=un (gG L r9 p).2
   (kM L p 15 (bs []) 0 [] [] [k.1],k.2)
 else Bu L ki ex p
def tN (ki:PS->fZ × PS):Nat->(PS->fo × PS) × (PS->fo × PS)
 |0=>(λp=>(mZ,p),λp=>(mZ,p))
 | d+1=>
   (λp=>if(ic L p).1=true then tL (yZ L ki (tN ki d).1 (Ew L ki (tN ki d).2) (ic L p).2)else(mZ,(ic L p).2),
    λp=>if(ic L p).1=true then tL (y5 L ki (tN ki d).1 (tN ki d).2 (ic L p).2)else(mZ,(ic L p).2))
def uP:PS->fZ × PS:=vP L 102
def Dj:PS->fo × PS:=(tN L (uP L) 102).1
def tO:Nat->List di->PS->List di × PS
 |0,l,p=>(l,p)
 | n+1,l,p=>
   let s:=iN L p;let m:=gG L (bs [44]) s.2
   if m.1=true then tO n (l++[s.1]) m.2 else(l++[s.1],m.2)
def xe:Nat->List (di × fZ)->PS->List (di × fZ) × PS
 |0,l,p=>(l,p)
 | n+1,l,p=>
   let s:=iN L p;let t:=if(gG L (bs [60,58]) s.2).1=true then uP L (gG L (bs [60,58]) s.2).2 else(noT,s.2);let m:=gG L (bs [44]) t.2
   if m.1=true then xe n (l++[(s.1,t.1)]) m.2 else(l++[(s.1,t.1)],iV L (bs [93]) m.2)
def xf(p:PS):List (di × fZ) × PS:=if(gG L (bs [91]) p).1=true then xe L (L.length+1) [] (gG L (bs [91]) p).2 else([],p)
structure jO where
  from_:di
  names:List di
  line:Int
  col:Int
structure ik where
  name:di
  exp:Bool
  vars:List (di × fZ)
  param:di
  types:List fZ
  body:fo
  line:Int
  col:Int
structure ig where
  imps:List jO
  decs:List ik
abbrev wK:=bs [105,109,112,111,114,116]
abbrev zZ:=bs [101,120,112,111,114,116]
def wL:Nat->List jO->PS->List jO × PS
 |0,l,p=>(l,p)
 | n +1,l,p=>if p.e=0/\(gG L wK p).1=true then
     let s:=iN L (gG L wK p).2;let ns:=tO L (L.length+1) [] (iV L (bs [58]) s.2)
     wL n (l++[⟨s.1,ns.1,(gU L p).line,(gU L p).col⟩]) (iV L (bs [59]) ns.2)
   else(l,p)
def qd(p:PS):ik × PS:=
 let x:=gG L zZ p;let s:=iN L (iV L sP x.2);let v:=xf L s.2;let h:=qZ L (uP L) v.2;let b:=Dj L (iV L (bs [61]) h.2)
 (⟨s.1,x.1,v.1,h.1.1,if h.1.2.length=1 then h.1.2++[noT]else h.1.2,b.1,(gU L x.2).line,(gU L x.2).col⟩,iV L (bs [59]) b.2)
def qf:Nat->List ik->PS->List ik × PS
 |0,l,p=>(l,p)
 |n+1,l,p=>if p.e=0/\(gU L p).kind≠0 then qf n (l++[(qd L p).1]) (qd L p).2 else(l,p)
def Ah(p:PS):ig × PS:=
 let i:=wL L (L.length+1) [] p;let d:=qf L (L.length+1) [] i.2
 (⟨i.1,d.1⟩,d.2)
end
structure iR (L:List Tok):Prop where
  pos:0<L.length
  mid:∀i,i<L.length->(L.getD i wC).kind≠0->i+1<L.length
structure Tm (L:List Tok) (p q:PS):Prop where
  deep:q.deep=p.deep
  le:p.at'<=q.at'
  lt:q.at'<L.length
  bad:p.e≠0->q.e≠0
section
variable {L:List Tok}
def Tm.refl{p:PS}(h:p.at'<L.length):Tm L p p:=⟨rfl,aK _,h,id⟩
def Tm.trans{p q r:PS}(h:Tm L p q)(k:Tm L q r):Tm L p r:=⟨k.deep.trans h.deep,aj h.le k.le,k.lt,λx=>k.bad (h.bad x)⟩
def Dk{e:Int}{p:PS}(h:p.at'<L.length):Tm L p (vO L e p):=by
 unfold vO;split
 · rename_i q;exact⟨rfl,aK _,h,λx=>absurd q x⟩
 · exact Tm.refl h
def Ey{e:Int}{p:PS}(h:e≠0):(vO L e p).e≠0:=by
 unfold vO;split
 · exact h
 · rename_i q;exact q
def iF(hL:iR L){s:di}{p:PS}(h:p.at'<L.length):Tm L p (gG L s p).2:=by
 unfold gG;split
 · rename_i q;unfold Di gU at q;simp only[aC,bS,aI]at q;refine⟨rfl,by simp,hL.mid _ h (by omega),λx=>absurd q.1 x⟩
 · exact Tm.refl h
def take_at{s:di}{p:PS}(h:(gG L s p).1=true):(gG L s p).2.at'=p.at'+1/\p.e=0:=by
 unfold gG at h⊢;split
 · rename_i q;unfold Di at q;simp only[aC,aI]at q;exact⟨rfl,q.1⟩
 · rename_i q;rw[aA q]at h;cases h
def kg{s:di}{p:PS}(h:¬(gG L s p).1=true):(gG L s p).2=p:=by
 unfold gG at h⊢;split
 · rename_i q;rw[aB q]at h;exact absurd rfl h
 · rfl
def iP(hL:iR L){s:di}{p:PS}(h:p.at'<L.length):Tm L p (iV L s p):=by
 unfold iV;split
 · exact iF hL h
 · exact Dk h
def zFF{s:di}{p:PS}:(iV L s p).e≠0\/(iV L s p).at'=p.at'+1:=by
 unfold iV;split
 · rename_i q;exact .inr (take_at q).1
 · exact .inl (Ey (by decide))
def lS(hL:iR L){p:PS}(h:p.at'<L.length):Tm L p (iN L p).2:=by
 unfold iN;split
 · rename_i q;exact⟨rfl,by simp,hL.mid _ h (by unfold gU at q;omega),λx=>absurd q.1 x⟩
 · exact Dk h
def I6{p:PS}(h:p.at'<L.length):Tm L p (x9 L p):=by
 unfold x9;split
 · exact Dk h
 · exact Tm.refl h
end
section
variable {L:List Tok}
def gF{α:Type}(L:List Tok)(f:PS->α × PS):Prop:=∀p,p.at'<L.length->Tm L p (f p).2
def Ez(hL:iR L):∀(l:List di) (i:Nat) {p q:PS} {k:Nat},p.at'<L.length->uh L i l p=some (k,q)->Tm L p q/\p.at'<q.at'/\p.e=0/\k<i+l.length
|[],_,_,_,_,_,h=>by rw[uh]at h;cases h
| s::l,i,p,q,k,hp,h=>by
 rw[uh]at h;split at h
 ·rename_i c;simp only[aO,ax]at h;obtain⟨rfl,rfl⟩:=h;have:=take_at c;exact⟨iF hL hp,by omega,this.2,by simp⟩
 ·have:=Ez hL l (i+1) hp h;simp only[List.length_cons];exact⟨this.1,this.2.1,this.2.2.1,by omega⟩
def Bv(hL:iR L):∀(l:List di) {p q:PS} {k:di},p.at'<L.length->uO L l p=some (k,q)->Tm L p q/\p.at'<q.at'/\p.e=0
|[],_,_,_,_,h=>by rw[uO]at h;cases h
| s::l,p,q,k,hp,h=>by
 rw[uO]at h;split at h
 ·rename_i c;simp only[aO,ax]at h;obtain⟨rfl,rfl⟩:=h;have:=take_at c;exact⟨iF hL hp,by omega,this.2⟩
 ·exact Bv hL l hp h
def Tq(hL:iR L){ki:PS->fZ × PS}(hk:gF L ki):∀(n:Nat) (ns:List di) (ks:List fZ),gF L (zX L ki n ns ks)
|0,ns,ks,p,hp=>Tm.refl hp
|n+1,ns,ks,p,hp=>by
 have h1:=lS hL hp;have h2:=h1.trans (iP hL h1.lt (s:=bs [58]));have h3:=h2.trans (hk _ h2.lt);have h4:=h3.trans (iF hL h3.lt (s:=bs [44]));rw[zX];split
 ·exact h4.trans (Tq hL hk n _ _ _ h4.lt)
 ·exact h4
def zDB(hL:iR L){ki:PS->fZ × PS}(hk:gF L ki):gF L (Et L ki):=λp hp=>by
 unfold Et;by_cases c1:(gG L (bs [40]) p).1=true
 ·rw[aB c1];have h1:=iF hL hp (s:=bs [40]);have h2:=h1.trans (hk _ h1.lt);exact h2.trans (iP hL h2.lt)
 rw[aA c1];by_cases c2:(gG L (bs [123]) p).1=true
 ·rw[aB c2];have h1:=iF hL hp (s:=bs [123]);by_cases c3:(gG L (bs [125]) (gG L (bs [123]) p).2).1=true
  ·rw[aB c3];exact h1.trans (iF hL h1.lt)
  ·rw[aA c3];have h2:=h1.trans (Tq hL hk (L.length+1) [] [] _ h1.lt);exact h2.trans (iP hL h2.lt)
 rw[aA c2];exact lS hL hp
def FB(hL:iR L){ki:PS->fZ × PS}(hk:gF L ki):gF L (qX L ki):=λp hp=>by
 unfold qX;cases e:uh L 0 wG p with
 |some x=>exact(Ez hL _ _ hp e).1
 |none=>exact zDB hL hk p hp
def Tt(hL:iR L){ki:PS->fZ × PS}(hk:gF L ki):∀(n:Nat) (l:List fZ),gF L (qY L ki n l)
|0,l,p,hp=>Tm.refl hp
| n+1,l,p,hp=>by
 rw[qY];split
 ·have h1:=iF hL hp (s:=bs [124]);have h2:=h1.trans (FB hL hk _ h1.lt);exact h2.trans (Tt hL hk n _ _ h2.lt)
 ·exact Tm.refl hp
def Tu(hL:iR L){ki:PS->fZ × PS}(hk:gF L ki):gF L (qA L ki):=λp hp=>by
 have h1:=FB hL hk p hp;unfold qA;exact h1.trans (Tt hL hk (L.length+1) _ _ h1.lt)
def I7{p:PS}(h:¬(ic L p).1=true):(ic L p).2=x9 L p:=by
 unfold ic at h⊢;split
 ·rfl
 ·rename_i q;rw[aA q]at h;exact absurd rfl h
def y7{p:PS}(h:(ic L p).1=true):(ic L p).2={p with deep:=p.deep+1}/\p.deep<100/\p.e=0:=by
 unfold ic at h⊢;split
 ·rename_i q;rw[aB q]at h;cases h
 ·rename_i q;have hd:p.deep<100:=by
   rcases aX p.deep 100 with r|r
   ·exact r
   ·exfalso;apply q;unfold x9;rw[aB r];exact Ey (by decide)
  have e:x9 L p=p:=by unfold x9;rw[aA (by omega)]
  rw[e]at q⊢;exact⟨rfl,hd,by simpa using q⟩
def Le{α:Type}{p:PS}{x:α × PS}(h:(ic L p).1=true)(hp:p.at'<L.length)(k:Tm L (ic L p).2 x.2):Tm L p (tL x).2:=by
 obtain⟨e,_,h0⟩:=y7 h;rw[e]at k;have hd:=k.deep;simp only at hd;exact⟨by simp only[tL];omega,k.le,k.lt,λx=>absurd h0 x⟩
def zDC(hL:iR L){ki:PS->fZ × PS}(hk:gF L ki):gF L (Eu L ki):=λp hp=>by
 have h1:=Tu hL hk p hp;have h2:=h1.trans (iF hL h1.lt (s:=bs [45,62]));unfold Eu;by_cases c2:(gG L (bs [45,62]) (qA L ki p).2).1=true
 ·show Tm L p (if(gG L (bs [45,62]) (qA L ki p).2).1=true then _ else _:fZ × PS).2;rw[aB c2];exact h2.trans (hk _ h2.lt)
 ·show Tm L p (if(gG L (bs [45,62]) (qA L ki p).2).1=true then _ else _:fZ × PS).2;rw[aA c2];exact h2
def Lf(hL:iR L)(d:Nat):gF L (vP L d):=by
 induction d with
 |zero=>exactλp hp=>Tm.refl hp
 | succ d ih=>
  intro p hp;rw[vP];show Tm L p (if(ic L p).1=true then _ else _:fZ × PS).2;by_cases c:(ic L p).1=true
  ·rw[aB c];have hp':(ic L p).2.at'<L.length:=by rw[(y7 c).1];exact hp
   exact Le c hp (zDC hL ih _ hp')
  ·rw[aA c,I7 c];exact I6 hp
def y8(hL:iR L){ki:PS->fZ × PS}(hk:gF L ki):gF L (o9 L ki):=λp hp=>by
 unfold o9;split
 ·have h1:=iF hL hp (s:=bs [58]);exact h1.trans (hk _ h1.lt)
 ·exact Tm.refl hp
def Ai(hL:iR L){ki:PS->fZ × PS}(hk:gF L ki):gF L (qZ L ki):=λp hp=>by
 unfold qZ;have h1:=iP hL hp (s:=bs [40]);have h2:=h1.trans (lS hL h1.lt);have h3:=h2.trans (y8 hL hk _ h2.lt);have h4:=h3.trans (iP hL h3.lt (s:=bs [41]));exact h4.trans (y8 hL hk _ h4.lt)
def Lg(hL:iR L){ki:PS->fZ × PS}{ex rk:PS->fo × PS}(hk:gF L ki)(he:gF L ex)(hr:gF L rk):gF L (yZ L ki ex rk):=λp hp=>by
 unfold yZ;split
 ·have h1:=iF hL hp (s:=rW);have h2:=h1.trans (lS hL h1.lt);have h3:=h2.trans (y8 hL hk _ h2.lt);have h4:=h3.trans (iP hL h3.lt (s:=bs [61]));have h5:=h4.trans (he _ h4.lt);have h6:=h5.trans (iP hL h5.lt (s:=bs [59]));exact h6.trans (he _ h6.lt)
 ·split
  ·have h1:=iF hL hp (s:=zY);have h2:=h1.trans (he _ h1.lt);have h3:=h2.trans (iP hL h2.lt (s:=Bh));have h4:=h3.trans (he _ h3.lt);have h5:=h4.trans (iP hL h4.lt (s:=Bi));exact h5.trans (he _ h5.lt)
  ·split
   ·have h1:=iF hL hp (s:=sP);have h2:=h1.trans (Ai hL hk _ h1.lt);have h3:=h2.trans (iP hL h2.lt (s:=bs [61,62]));exact h3.trans (he _ h3.lt)
   ·exact hr p hp
def Dl(hL:iR L){rk:PS->fo × PS}(hr:gF L rk)(signs:List di):∀(n:Nat) (a:fo),gF L (kN L rk signs n a)
|0,a,p,hp=>Tm.refl hp
| n+1,a,p,hp=>by
 rw[kN];split
 ·exact Tm.refl hp
 ·rename_i s q h;have h1:=(Bv hL _ hp h).1;have h2:=h1.trans (hr _ h1.lt);exact h2.trans (Dl hL hr signs n _ _ h2.lt)
def zGs(hL:iR L){ki:PS->fZ × PS}{rk:PS->fo × PS}(hk:gF L ki)(hr:gF L rk):gF L (qc L ki rk):=λp hp=>by
 have h0:=hr p hp;unfold qc;simp only;split
 ·rename_i s q h;have h1:=h0.trans (Bv hL _ h0.lt h).1;exact h1.trans (hr _ h1.lt)
 ·split
  ·have h1:=h0.trans (iF hL h0.lt (s:=bs [97,115]));exact h1.trans (hk _ h1.lt)
  ·split
   ·have h1:=h0.trans (iF hL h0.lt (s:=bs [105,115]));split
    ·rename_i i q h;exact h1.trans (Ez hL _ _ h1.lt h).1
    ·exact h1.trans (Dk h1.lt)
   ·exact h0
def FC(hL:iR L){ki:PS->fZ × PS}{un:PS->fo × PS}(hk:gF L ki)(hu:gF L un):gF L (Bj L un)/\gF L (Bl L un)/\gF L (Ev L un)/\gF L (Bn L ki un)/\gF L (Bo L ki un)/\gF L (Ew L ki un):=by
 have h5:gF L (Bj L un):=λp hp=>(hu p hp).trans (Dl hL hu _ _ _ _ (hu p hp).lt);have h4:gF L (Bl L un):=λp hp=>(h5 p hp).trans (Dl hL h5 _ _ _ _ (h5 p hp).lt);have h3:gF L (Ev L un):=λp hp=>(h4 p hp).trans (Dl hL h4 _ _ _ _ (h4 p hp).lt);have h2:gF L (Bn L ki un):=zGs hL hk h3;have h1:gF L (Bo L ki un):=λp hp=>(h2 p hp).trans (Dl hL h2 _ _ _ _ (h2 p hp).lt);have h0:gF L (Ew L ki un):=λp hp=>(h1 p hp).trans (Dl hL h1 _ _ _ _ (h1 p hp).lt);exact⟨h5,h4,h3,h2,h1,h0⟩
def Lh(hL:iR L){ki:PS->fZ × PS}(hk:gF L ki):∀(n:Nat) (l:List fZ),gF L (vQ L ki n l)
|0,l,p,hp=>Tm.refl hp
|n+1,l,p,hp=>by
 have h1:=hk p hp;have h2:=h1.trans (iF hL h1.lt (s:=bs [44]));rw[vQ];split
 ·exact h2.trans (Lh hL hk n _ _ h2.lt)
 ·exact h2.trans (iP hL h2.lt)
def FD(hL:iR L){ex:PS->fo × PS}(he:gF L ex):∀(n:Nat) (ns:List di) (ks:List fo),gF L (qw L ex n ns ks)
|0,ns,ks,p,hp=>Tm.refl hp
|n+1,ns,ks,p,hp=>by
 have h1:=lS hL hp;have h2:=h1.trans (iP hL h1.lt (s:=bs [58]));have h3:=h2.trans (he _ h2.lt);have h4:=h3.trans (iF hL h3.lt (s:=bs [44]));rw[qw];split
 ·exact h4.trans (FD hL he n _ _ _ h4.lt)
 ·exact h4
def zB3(hL:iR L){ex:PS->fo × PS}(he:gF L ex)(q:PS):gF L (ui L ex q):=λp hp=>by
 unfold ui;split
 ·exact iF hL hp
 ·split
  ·have h1:=he p hp;have h2:=h1.trans (iP hL h1.lt (s:=Bp));have h3:=h2.trans (lS hL h2.lt);have h4:=h3.trans (iP hL h3.lt (s:=bs [58]));have h5:=h4.trans (he _ h4.lt);exact h5.trans (iP hL h5.lt)
  ·have h1:=FD hL he (L.length+1) [] [] p hp;exact h1.trans (iP hL h1.lt)
def Tv(hL:iR L){p:PS}(hp:p.at'<L.length)(h:p.e=0/\(gU L p).kind≠0):Tm L p {p with at':=p.at'+1}:=
⟨rfl,by simp,hL.mid _ hp h.2,λx=>absurd h.1 x⟩
def I8(hL:iR L){ki:PS->fZ × PS}{ex:PS->fo × PS}(hk:gF L ki)(he:gF L ex):gF L (wJ L ki ex):=λp hp=>by
 unfold wJ;by_cases c1:p.e=0/\(gU L p).kind=3
 ·rw[aB c1];exact Tv hL hp ⟨c1.1,by omega⟩
 rw[aA c1];by_cases c2:p.e=0/\(gU L p).kind=4
 ·rw[aB c2];exact Tv hL hp ⟨c2.1,by omega⟩
 rw[aA c2];by_cases c3:(gG L Bq p).1=true
 ·rw[aB c3];exact iF hL hp
 rw[aA c3];by_cases c4:(gG L Br p).1=true
 ·rw[aB c4];exact iF hL hp
 rw[aA c4];by_cases c5:(gG L Bt p).1=true
 ·rw[aB c5];exact iF hL hp
 rw[aA c5];by_cases c6:(gG L xc p).1=true
 ·rw[aB c6];have h1:=iF hL hp (s:=xc);have h2:=h1.trans (iP hL h1.lt (s:=bs [40]));exact h2.trans (iP hL h2.lt)
 rw[aA c6];by_cases c7:(gG L xA p).1=true
 ·rw[aB c7];have h1:=iF hL hp (s:=xA);have h2:=h1.trans (iP hL h1.lt (s:=bs [40]));have h3:=h2.trans (he _ h2.lt);exact h3.trans (iP hL h3.lt)
 rw[aA c7];by_cases c8:(gG L (bs [40]) p).1=true
 ·rw[aB c8];have h1:=iF hL hp (s:=bs [40]);have h2:=h1.trans (he _ h1.lt);exact h2.trans (iP hL h2.lt)
 rw[aA c8];by_cases c9:(gG L (bs [123]) p).1=true
 ·rw[aB c9];have h1:=iF hL hp (s:=bs [123]);exact h1.trans (zB3 hL he p _ h1.lt)
 rw[aA c9];have h1:=lS hL hp;by_cases c10:(gG L (bs [91]) (iN L p).2).1=true
 ·have h2:=h1.trans (iF hL h1.lt (s:=bs [91]));have h3:=h2.trans (Lh hL hk (L.length+1) [] _ h2.lt);show Tm L p (if(gG L (bs [91]) (iN L p).2).1=true then _ else _:fo × PS).2;rw[aB c10];exact h3
 ·show Tm L p (if(gG L (bs [91]) (iN L p).2).1=true then _ else _:fo × PS).2;rw[aA c10];exact h1
def Li(hL:iR L){ex:PS->fo × PS}(he:gF L ex):∀(n:Nat) (a:fo),gF L (rY L ex n a)
|0,a,p,hp=>Tm.refl hp
| n+1,a,p,hp=>by
 rw[rY];split
 ·have h1:=iF hL hp (s:=bs [40]);have h2:=h1.trans (he _ h1.lt);have h3:=h2.trans (iP hL h2.lt (s:=bs [41]));exact h3.trans (Li hL he n _ _ h3.lt)
 ·split
  ·have h1:=iF hL hp (s:=bs [46]);have h2:=h1.trans (lS hL h1.lt);exact h2.trans (Li hL he n _ _ h2.lt)
  ·exact Tm.refl hp
def Tw(hL:iR L){ki:PS->fZ × PS}{ex:PS->fo × PS}(hk:gF L ki)(he:gF L ex):gF L (Bu L ki ex):=λp hp=>by
 have h1:=I8 hL hk he p hp;unfold Bu;exact h1.trans (Li hL he _ _ _ h1.lt)
def zDD(hL:iR L){ki:PS->fZ × PS}{ex un:PS->fo × PS}(hk:gF L ki)(he:gF L ex)(hu:gF L un):gF L (y5 L ki ex un):=λp hp=>by
 unfold y5;split
 ·have h1:=iF hL hp (s:=bs [45]);exact h1.trans (hu _ h1.lt)
 ·split
  ·have h1:=iF hL hp (s:=r9);exact h1.trans (hu _ h1.lt)
  ·exact Tw hL hk he p hp
def FE(hL:iR L){ki:PS->fZ × PS}(hk:gF L ki)(d:Nat):gF L (tN L ki d).1/\gF L (tN L ki d).2:=by
 induction d with
 |zero=>exact⟨λp hp=>Tm.refl hp,λp hp=>Tm.refl hp⟩
 | succ d ih=>
  rw[tN];refine⟨λp hp=>?_,λp hp=>?_⟩
  ·show Tm L p (if(ic L p).1=true then _ else _:fo × PS).2;by_cases c:(ic L p).1=true
   ·rw[aB c];have hp':(ic L p).2.at'<L.length:=by rw[(y7 c).1];exact hp
    exact Le c hp (Lg hL hk ih.1 (FC hL hk ih.2).2.2.2.2.2 _ hp')
   ·rw[aA c,I7 c];exact I6 hp
  ·show Tm L p (if(ic L p).1=true then _ else _:fo × PS).2;by_cases c:(ic L p).1=true
   ·rw[aB c];have hp':(ic L p).2.at'<L.length:=by rw[(y7 c).1];exact hp
    exact Le c hp (zDD hL hk ih.1 ih.2 _ hp')
   ·rw[aA c,I7 c];exact I6 hp
end
def mV{ts:List (Nat × Nat)}{b:Blk}(h:ts.length=[b].length):∃t,ts=[t]:=by
 match ts,h with
 |[t],_=>exact⟨t,rfl⟩
abbrev jb(L:List Tok)(p:PS):Blk:=.box [.d (.sl false 4 (L.map Tok.enc)),.d (.int .i64 p.at'),.d (.int .i64 p.deep),.d (.int .i64 p.e),.d (.int .i64 p.line),.d (.int .i64 p.col)]
section
variable {L:List Tok}
def y9{p:PS}(h:p.at'<L.length):L[p.at']?=some (gU L p):=by
 unfold gU;rw[aF,aD h];try rfl
def FF(e:Int)(p:PS)(h:p.at'<L.length):MCall Pg 119 [.c (.ptr 0 0),.c (.d (.int .i64 e))] [jb L p] (.tup []) [jb L (vO L e p)]:=by
 refine zAk mU λts hts ok hb c hN hp=>?_;obtain⟨t,rfl⟩:=mV hts;have hg:=y9 h;unfold Sv vO;simp;apply fM<;>intro h0
 ·have h0:p.e=0:=by simpa using h0
  rw[aB h0];simp[hg];refine⟨by decide,?_⟩;exact eH [0] [1]
 ·have h0:¬p.e=0:=by simpa using h0
  rw[aA h0];exact eH [0] [1]
def zDt(s:di)(p:PS)(h:p.at'<L.length):MCall Pg 161 [.c (.ptr 0 0),.c (.d (.str s))] [jb L p] (.c (.d (.bool (Di L s p)))) [jb L p]:=by
 refine zAl mU λts hts ok hb c hN hp=>?_;obtain⟨t,rfl⟩:=mV hts;have hg:=y9 h;unfold Sw Di;generalize gU L p=T at*
 by_cases h0:p.e=0<;>by_cases h2:T.kind=2<;>by_cases h5:T.kind=5<;>simp[hg,h0,h2,h5];all_goals (refine⟨by decide,?_⟩)
 all_goals exact eO [0] [1] (by simp[h0,h2,h5])
def lT(s:di)(p:PS)(h:p.at'<L.length)(hl:L.length<=10000):MCall Pg 112 [.c (.ptr 0 0),.c (.d (.str s))] [jb L p] (.c (.d (.bool (gG L s p).1))) [jb L (gG L s p).2]:=by
 refine zAm mU λts hts ok hb c hN hp=>?_;obtain⟨t,rfl⟩:=mV hts;have hs:=zDt s p h;unfold Sy gG;generalize Di L s p=b at*
 simp;refine fO [0] hs ?_;cases b with
 |true=>
  simp;exact eO [0] [1] (by simp;exact wI)
 |false=>
  simp;exact eH [0] [1]
def nQ(hL:iR L)(s:di)(p:PS)(h:p.at'<L.length)(hl:L.length<=10000):MCall Pg 114 [.c (.ptr 0 0),.c (.d (.str s))] [jb L p] (.tup []) [jb L (iV L s p)]:=by
 refine zAn mU λts hts ok hb c hN hp=>?_;obtain⟨t,rfl⟩:=mV hts;have hs:=lT s p h hl;unfold Sz iV;by_cases q:(gG L s p).1=true
 ·rw[aB q];rw[q]at hs;simp;refine fO [0] hs ?_;simp;exact eH [0] [1]
 ·rw[aA q];rw[kg q]at hs;rw[aN]at q;rw[q]at hs;have hf:=FF (L:=L) 7 p h;simp;refine fO [0] hs ?_;simp;refine fO [0] hf ?_;simp;exact eH [0] [1]
def wO(p:PS)(h:p.at'<L.length)(hl:L.length<=10000):MCall Pg 113 [.c (.ptr 0 0)] [jb L p] (.c (.d (.str (iN L p).1))) [jb L (iN L p).2]:=by
 refine zAo mU λts hts ok hb c hN hp=>?_;obtain⟨t,rfl⟩:=mV hts;have hg:=y9 h;have hf:=FF (L:=L) 7 p h;unfold TA iN;generalize gU L p=T at*
 by_cases h0:p.e=0<;>by_cases h1:T.kind=1<;>simp[hg,h0,h1]
 ·refine⟨by decide,?_⟩;exact eO [0] [1] (by simp;exact wI)
 all_goals
  refine⟨by decide,?_⟩;refine fO [0] hf ?_;simp;exact eO [0] [1] (by simp[h0,h1])
def Lj(p:PS)(h:p.at'<L.length)(hd:p.deep<=1000):MCall Pg 164 [.c (.ptr 0 0)] [jb L p] (.c (.d (.bool (ic L p).1))) [jb L (ic L p).2]:=by
 refine zyM mU λts hts ok hb c hN hp=>?_;obtain⟨t,rfl⟩:=mV hts;have hf:=FF (L:=L) 6 p h;have hfd:(vO L 6 p).deep=p.deep:=(Dk h).deep;have hff:(vO L 6 p).e≠0:=Ey (by decide);unfold TB ic x9;by_cases h1:100<=p.deep
 ·have h1':(100:Int)<=p.deep:=by omega
  rw[aB h1,aB hff];simp[h1'];refine fO [0] hf ?_;simp[hff];exact eH [0] [1]
 ·have h1':¬(100:Int)<=p.deep:=by omega
  rw[aA h1];by_cases h0:p.e=0
  ·rw[aA (by simp[h0])];simp[h1',h0];exact eO [0] [1] (by simp;exact wI)
  ·rw[aB h0];simp[h1',h0];exact eH [0] [1]
end
end Go.Gr
namespace Go.Gr
open Go.Abs Go.Proofs List
@[simp] theorem zG2{α:Type}(f:Nat->Nat)(g:α->List D):AC.rens f∘((λx=>List.map AC.d x)∘g)=(λx=>List.map AC.d x)∘g:=by funext x;simp
@[simp] theorem Tx(a b:List di):encS (a++b)=encS a++encS b:=by simp[encS]
@[simp] theorem Tz(s:di):encS [s]=[[.str s]]:=rfl
@[simp] theorem zHS:encS []=[]:=rfl
theorem Dm:∀l:List di,D.erdE (encS l)=encS l
|[]=>rfl
|s::l=>by
 have ih:=Dm l;simp only[encS,map_cons,D.erdE,D.erdL,D.erd]at ih⊢;rw[ih]
mutual
theorem fZ.erdL:∀t:fZ,D.erdL t.enc=t.enc
|.mk k n s l=>by
 simp only[fZ.enc,D.erdL,D.erd,Dm,fZ.erdE l]
theorem fZ.erdE:∀l:List fZ,D.erdE (fZ.encs l)=fZ.encs l
|[]=>rfl
|t::l=>by simp only[fZ.encs,D.erdE,fZ.erdL t,fZ.erdE l]
end
@[simp] theorem Ll(l:List fZ):D.erdE (l.map fZ.enc)=l.map fZ.enc:=by rw[<-fZ.encs_map];exact fZ.erdE l
def UA:∀l:List D,(l.map AC.d).map AC.erd=(D.erdL l).map .d
|[]=>rfl
|d::l=>by simp only[map_cons,UA l,D.erdL];rfl
attribute [simp] AV.erd AC.erd D.erd D.erdE D.erdL fZ.erdL Dm fZ.erdE
abbrev Bw:Blk:=.box [.d (.int .i64 0),.d (.str (bs [])),.d (.sl true 1 []),.d (.sl true 4 [])]
def ow(L:List Tok)(d:Nat)(ki:PS->fZ × PS):Prop:=∀p:PS,p.at'<L.length->p.deep=d->MCall Pg 162 [.c (.ptr 0 0)] [jb L p] (.ag ((ki p).1.enc.map .d)) [jb L (ki p).2]
section
variable {L:List Tok}
theorem UB(hL:iR L)(hl:L.length<=10000){d:Nat}{ki:PS->fZ × PS}(hk:gF L ki)(Hk:ow L d ki)(p:PS)(h:p.at'<L.length)(hd:p.deep=d):
  MCall Pg 218 [.c (.ptr 0 0)] [jb L p] (.ag ((qX L ki p).1.enc.map .d)) [jb L (qX L ki p).2]:=by
 refine zAq mU λts hts ok hb c hN hp=>?_;obtain⟨t,rfl⟩:=mV hts;have hR:qX L ki p=qX L ki p:=rfl;generalize hR':qX L ki p=R at*
 unfold TI;simp;refine eP gD hp (λj:Nat=>j<=5/\uh L j (wG.drop j) p=uh L 0 wG p) (λj=>[(4,.c (.d (.int .i64 j))),(3,.c (.d (.sl true 1 (encS wG)))),(0,.c (.ptr 0 0)),(2,.c (.ptr 2 0))]) (λj=>[jb L p,.pin t 0,Bw]) (λj=>5-j) 0 [0,1,2] ⟨by simp,rfl⟩ (by simp[encS,wG]) λj ⟨h1,h2⟩=>?_;unfold TG;have hbl:wG.length=5:=rfl;simp[hbl];apply fM<;>intro h5
 ·have hj:j<wG.length:=by simp at h5;omega
  have hj':j<5:=by omega
  rw[aG hj,uh]at h2;have hg:wG[j]?=some wG[j]:=aD hj;have ht:=lT wG[j] p h hl;generalize wG[j]=s at*
  simp[hg];refine fO [0] ht ?_;by_cases q:(gG L s p).1=true
  ·rw[aB q]at h2;have hr:R=(.mk j (bs []) [] [],(gG L s p).2):=by rw[<-hR'];unfold qX;rw[<-h2]
   rw[hr];simp[q];exact eF [0] [1] (by simp[fZ.enc,fZ.encs,encS])
  ·rw[aA q]at h2;rw[kg q];rw[aN]at q;simp[q];refine dm (j+1) [0,1,2] ⟨by omega,h2⟩ (by omega) ?_;simp;exact wI
 ·have hj:j=5:=by simp at h5;omega
  subst hj;have h2:uh L 0 wG p=none:=by rw[<-h2];try rfl
  have ht:=lT (bs [40]) p h hl;have hr:R=Et L ki p:=by rw[<-hR'];unfold qX;rw[h2]
  rw[hr];unfold Et;simp;refine fO [0] ht ?_;by_cases q1:(gG L (bs [40]) p).1=true
  ·have t1:=iF hL h (s:=bs [40]);have t2:=t1.trans (hk _ t1.lt);have h3:=Hk _ t1.lt (by rw[t1.deep,hd]);have h4:=nQ hL (bs [41]) _ t2.lt hl;rw[aB q1];simp[q1];refine fO [0] h3 ?_;simp;refine fO [0] h4 ?_;simp;exact eH [0] [1]
  ·rw [aA q1,kg q1];rw[aN]at q1;have h3:=lT (bs [123]) p h hl;simp[q1];refine fO [0] h3 ?_;by_cases q2:(gG L (bs [123]) p).1=true
   ·rw [aB q2];have t1:=iF hL h (s:=bs [123]);have h4:=lT (bs [125]) _ t1.lt hl;generalize (gG L (bs [123]) p).2=p1 at*
    simp[q2];refine eY [.c 3 2,.c 3 3] ?_;simp;refine fO [0] h4 ?_;by_cases q3:(gG L (bs [125]) p1).1=true
    ·rw[aB q3];simp[q3];refine eU [4,5] ?_;simp[jT];exact eF [0] [1] (by simp[fZ.enc,fZ.encs,encS])
    ·rw[aA q3,kg q3];rw[aN]at q3;simp[q3];obtain⟨F0,hF0⟩:∃F0,zX L ki (L.length+1) [] [] p1=F0:=⟨_,rfl⟩
     rw[hF0];have hd1:p1.deep=d:=by rw[t1.deep,hd]
     refine eP gD hp (λx:Nat × List di × List fZ × PS=>zX L ki x.1 x.2.1 x.2.2.1 x.2.2.2=F0/\Tm L p1 x.2.2.2/\L.length<x.1+x.2.2.2.at'/\x.2.1.length=x.2.2.1.length/\x.2.1.length<=x.2.2.2.at')
      (λx=>[(0,.c (.ptr 0 0)),(2,.c (.ptr 2 0)),(8,.c (.ptr 3 0))])
      (λx=>[jb L x.2.2.2,.pin t 0,Bw,.box [.d (.int .i64 5),.d (.str (bs [])),.msl 1 4 0 x.2.1.length,.msl 4 5 0 x.2.2.1.length],.arr 1 ((encS x.2.1).map (·.map .d)),.arr 4 ((x.2.2.1.map fZ.enc).map (·.map .d))])
      (λx=>x.1) (L.length+1,[],[],p1) [0,1,2,3,4,5] ⟨hF0,Tm.refl t1.lt,by simp only;omega,rfl,by simp⟩ (by simp[encS]) λ⟨n,ns,ks,q⟩ ⟨i1,i2,i3,i4,i5⟩=>?_
     unfold TH;simp only at i1 i2 i4 i5;have i3:L.length<n+q.at':=i3;have hlt:=i2.lt;obtain⟨n,rfl⟩:∃m,n=m+1:=⟨n-1,by omega⟩
     rw[zX]at i1;have e1:=lS hL hlt;have e2:=e1.trans (iP hL e1.lt (s:=bs [58]));have e3:=e2.trans (hk _ e2.lt);have e4:=e3.trans (iF hL e3.lt (s:=bs [44]));have c1:=wO q hlt hl;have c2:=nQ hL (bs [58]) _ e1.lt hl;have c3:=Hk _ e2.lt (by rw[e2.deep,i2.deep,hd1]);have c4:=lT (bs [44]) _ e3.lt hl;generalize (iN L q).1=s1 at*
     generalize (iN L q).2=q1' at*
     generalize iV L (bs [58]) q1'=q2' at*
     generalize (ki q2').1=k1 at*
     generalize (ki q2').2=q3' at*
     simp;refine fO [0] c1 ?_;simp;refine fO [0] c2 ?_;simp;refine fO [0] c3 ?_;simp;refine⟨by omega,by omega,?_⟩;refine fO [0] c4 ?_;by_cases q5:(gG L (bs [44]) q3').1=true
     ·rw[aB q5]at i1;have ha:=(take_at q5).1;have hb':=e3.le;simp[q5];refine dm (n,ns++[s1],ks++[k1],(gG L (bs [44]) q3').2) [0,1,2,3,7,8] ⟨i1,i2.trans e4,by simp only;omega,by simp[i4],by simp;omega⟩ (by simp) ?_;simp;exact⟨aH (by simp),aH (by simp)⟩
     ·rw[aA q5,kg q5]at i1;rw[<-i1];have c5:=nQ hL (bs [125]) _ e3.lt hl;rw[kg q5];rw[aN]at q5;simp[q5];refine eU [7,8] ?_;have k1':take ns.length (List.map (λx=>List.map AC.d x) (encS ns))=List.map (λx=>List.map AC.d x) (encS ns):=aH (by simp);have k2':take ks.length (List.map ((λx=>List.map AC.d x)∘fZ.enc) ks)=List.map ((λx=>List.map AC.d x)∘fZ.enc) ks:=aH (by simp);simp[jT,k1',k2'];refine fO [0] c5 ?_;simp[jT,k1',k2'];have z1:D.erdE (take (ns.length+1) (encS ns++[[D.str s1]]))=encS ns++[[D.str s1]]:=by
       rw[aH (by simp)];simpa only[Tx,Tz]using Dm (ns++[s1])
      have z2:D.erdE (take (ks.length+1) (ks.map fZ.enc++[k1.enc]))=ks.map fZ.enc++[k1.enc]:=by
       rw[aH (by simp)];simpa using Ll (ks++[k1])
      exact eF [0] [1] (by simp[fZ.enc,fZ.encs_map,jT,k1',k2',z1,z2])
   ·rw[aA q2,kg q2];rw[aN]at q2;have h4:=wO p h hl;simp[q2];refine fO [0] h4 ?_;simp;exact eF [0] [1] (by simp[fZ.enc,fZ.encs,encS])
def UC{ki:PS->fZ × PS}:∀(n:Nat) (l:List fZ) (p:PS),1<=l.length->1<=(qY L ki n l p).1.length
|0,l,p,h=>h
|n+1,l,p,h=>by
 rw[qY];split
 ·exact UC n _ _ (by simp)
 ·exact h
theorem zEQ(hL:iR L)(hl:L.length<=10000){d:Nat}{ki:PS->fZ × PS}(hk:gF L ki)(Hk:ow L d ki)(p:PS)(h:p.at'<L.length)(hd:p.deep=d):
  MCall Pg 196 [.c (.ptr 0 0)] [jb L p] (.ag ((qA L ki p).1.enc.map .d)) [jb L (qA L ki p).2]:=by
 refine zBK mU λts hts ok hb c hN hp=>?_;obtain⟨t,rfl⟩:=mV hts;have c1:=UB hL hl hk Hk p h hd;have t1:=FB hL hk p h;have hpos:=UC (L:=L) (ki:=ki) (L.length+1) [(qX L ki p).1] (qX L ki p).2 (by simp);unfold TF qA;simp only;obtain⟨F0,hF0⟩:∃F0,qY L ki (L.length+1) [(qX L ki p).1] (qX L ki p).2=F0:=⟨_,rfl⟩
 rw[hF0]at hpos⊢;generalize (qX L ki p).1=T1 at*
 generalize (qX L ki p).2=p1 at*
 simp;refine fO [0] c1 ?_;simp
 refine eP gD hp (λx:Nat × List fZ × PS=>qY L ki x.1 x.2.1 x.2.2=F0/\Tm L p1 x.2.2/\L.length<x.1+x.2.2.at'/\x.2.1.length<=x.2.2.at'+1)
  (λx=>[(0,.c (.ptr 0 0)),(2,.c (.ptr 2 0)),(3,.c (.msl 4 3 0 x.2.1.length))])
  (λx=>[jb L x.2.2,.pin t 0,Bw,.arr 4 ((x.2.1.map fZ.enc).map (·.map .d))])
  (λx=>x.1) (L.length+1,[T1],p1) [0,1,2,3] ⟨hF0,Tm.refl t1.lt,by simp only;omega,by simp⟩ (by simp) λ⟨n,l,q⟩ ⟨i1,i2,i3,i4⟩=>?_
 unfold TD;simp only at i1 i2 i4;have i3:L.length<n+q.at':=i3;have hlt:=i2.lt;obtain⟨n,rfl⟩:∃m,n=m+1:=⟨n-1,by omega⟩
 rw[qY]at i1;have e1:=iF hL hlt (s:=bs [124]);have a1:=lT (bs [124]) q hlt hl;simp;refine fO [0] a1 ?_;by_cases q1:(gG L (bs [124]) q).1=true
 ·rw[aB q1]at i1;have i1:qY L ki n (l++[(qX L ki (gG L (bs [124]) q).2).1]) (qX L ki (gG L (bs [124]) q).2).2=F0:=i1;have ha:=(take_at q1).1;have e2:=e1.trans (FB hL hk _ e1.lt);have hle:=(FB hL hk _ e1.lt).le;have a2:=UB hL hl hk Hk _ e1.lt (by rw[e1.deep,i2.deep,t1.deep,hd]);generalize (gG L (bs [124]) q).2=q2 at*
  generalize (qX L ki q2).1=T2 at*
  generalize (qX L ki q2).2=q3 at*
  simp[q1];refine fO [0] a2 ?_;simp;refine⟨by omega,?_⟩;refine dm (n,l++[T2],q3) [0,1,2,5] ⟨i1,i2.trans e2,by simp only;omega,by simp;omega⟩ (by simp) ?_;simp;exact aH (by simp)
 ·rw[aA q1]at i1;rw[kg q1];rw[aN]at q1;rw[<-i1]at hpos⊢;simp only at hpos⊢;by_cases hl1:l.length=1
  ·obtain⟨T,rfl⟩:∃T,l=[T]:=by
    match l,hl1 with
    |[T],_=>exact⟨T,rfl⟩
   have ho:Ld [T]=T:=rfl;rw[ho];simp[q1];refine eU [3] ?_;simp (maxSteps:=1000000) [jT];exact eH [0] [1]
  ·have htk:take l.length (List.map ((λx=>List.map AC.d x)∘fZ.enc) l)=List.map ((λx=>List.map AC.d x)∘fZ.enc) l:=aH (by simp);have hne:¬((l.length:Int)=1):=by omega
   rw[zD3 hl1];simp[q1];refine eU [3] ?_;simp (maxSteps:=1000000) [jT,htk,hne,hl1];have z:D.erdE (take l.length (l.map fZ.enc))=l.map fZ.enc:=by
    rw[aH (by simp)];exact Ll l
   exact eF [0] [1] (by simp[fZ.enc,fZ.encs_map,encS,z])
def Lm(hL:iR L)(hl:L.length<=10000):∀(n:Nat) (p:PS),p.at'<L.length->p.deep<=100->101<=p.deep+n->MCall Pg 162 [.c (.ptr 0 0)] [jb L p] (.ag ((vP L n p).1.enc.map .d)) [jb L (vP L n p).2]
|0,p,h,h1,h2=>by omega
| n+1,p,h,h1,h2=>by
 have ce:=Lj p h (by omega);refine zAp mU λts hts ok hb c hN hp=>?_;obtain⟨t,rfl⟩:=mV hts;have hR:vP L (n+1) p=if(ic L p).1=true then tL (Eu L (vP L n) (ic L p).2)else(noT,(ic L p).2):=by rw[vP]
 rw[hR];unfold TC;simp;refine fO [0] ce ?_;by_cases q:(ic L p).1=true
 ·rw[aB q];obtain⟨e1,e2,e3⟩:=y7 q;have hk:=Lf hL n;have Hk:ow L (p.deep+1) (vP L n):=λr hr hd=>Lm hL hl n r hr (by omega) (by omega);have hp1:(ic L p).2.at'<L.length:=by rw[e1];exact h
  have hd1:(ic L p).2.deep=p.deep+1:=by rw[e1]
  have a1:=zEQ hL hl hk Hk _ hp1 hd1;have t1:=Tu hL hk _ hp1;have a2:=lT (bs [45,62]) _ t1.lt hl;have t2:=t1.trans (iF hL t1.lt (s:=bs [45,62]));unfold tL Eu;simp only;generalize (ic L p).2=p1 at*
  generalize (qA L (vP L n) p1).1=T1 at*
  generalize (qA L (vP L n) p1).2=p2 at*
  simp[q];refine fO [0] a1 ?_;simp;refine fO [0] a2 ?_;by_cases q2:(gG L (bs [45,62]) p2).1=true
  ·rw[aB q2];have a3:=Hk _ t2.lt (by rw[t2.deep,hd1]);have hd3:=(t2.trans (hk _ t2.lt)).deep;simp only;simp only[hd1]at hd3;generalize (gG L (bs [45,62]) p2).2=p3 at*
   generalize (vP L n p3).1=T3 at*
   generalize (vP L n p3).2=p4 at*
   simp[q2];refine fO [0] a3 ?_;simp;have hw:IntKind.i64.wrap ((p4.deep:Int)-1)=((p4.deep-1:Nat):Int):=by rw[wI];omega
   exact eF [0] [1] (by simp[fZ.enc,fZ.encs,encS,hw])
  ·rw[aA q2,kg q2];have hd3:=t1.deep;rw[hd1]at hd3;rw[aN]at q2;simp[q2];have hw:IntKind.i64.wrap ((p2.deep:Int)-1)=((p2.deep-1:Nat):Int):=by rw[wI];omega
   exact eO [0] [1] (by simp[hw])
 ·rw[aA q];rw[aN]at q;simp[q];exact eF [0] [1] (by simp[noT,fZ.enc,fZ.encs,encS])
end
end Go.Gr
namespace Go.Gr
open Go.Abs Go.Proofs
mutual
theorem fo.erdL:∀t:fo,D.erdL t.enc=t.enc
|.mk k t n a b ts ns ks=>by
 simp only[fo.enc,D.erdL,D.erd,Dm,Ll,fo.erdE ks]
theorem fo.erdE:∀l:List fo,D.erdE (fo.encs l)=fo.encs l
|[]=>rfl
|t::l=>by simp only[fo.encs,D.erdE,fo.erdL t,fo.erdE l]
end
attribute [simp] fo.erdL fo.erdE
@[simp] theorem zFZ(l:List fo):D.erdE (l.map fo.enc)=l.map fo.enc:=by rw[<-fo.encs_map];exact fo.erdE l
def mh(L:List Tok)(f:FuncId)(d:Nat)(ex:PS->fo × PS):Prop:=∀p:PS,p.at'<L.length->p.deep=d->MCall Pg f [.c (.ptr 0 0)] [jb L p] (.ag ((ex p).1.enc.map .d)) [jb L (ex p).2]
section
variable {L:List Tok}
def Dn(k:Int)(p:PS)(h:p.at'<L.length):MCall Pg 197 [.c (.ptr 0 0),.c (.d (.int .i64 k))] [jb L p] (.ag [.d (.int .i64 k),.d (.str (bs [])),.d (.int .i64 0),.d (.int .i64 (gU L p).line),.d (.int .i64 (gU L p).col),.d (.sl true 4 []),.d (.sl true 1 []),.d (.sl true 8 [])]) [jb L p]:=by
 refine zDl mU λts hts ok hb c hN hp=>?_;obtain⟨t,rfl⟩:=mV hts;have hg:=y9 h;unfold TK;simp[hg];refine⟨by decide,?_⟩;exact eH [0] [1]
def FH(hL:iR L)(hl:L.length<=10000){d:Nat}{ki:PS->fZ × PS}(Hk:ow L d ki)(p:PS)(h:p.at'<L.length)(hd:p.deep=d):
  MCall Pg 163 [.c (.ptr 0 0)] [jb L p] (.c (.d (.sl true 4 ((o9 L ki p).1.map fZ.enc)))) [jb L (o9 L ki p).2]:=by
 refine zAr mU λts hts ok hb c hN hp=>?_;obtain⟨t,rfl⟩:=mV hts;have c1:=lT (bs [58]) p h hl;unfold TJ o9;simp;refine fO [0] c1 ?_;by_cases q:(gG L (bs [58]) p).1=true
 ·have t1:=iF hL h (s:=bs [58]);have c2:=Hk _ t1.lt (by rw[t1.deep,hd]);rw[aB q];simp[q];refine fO [0] c2 ?_;simp;exact eH [0] [1]
 ·rw[aA q,kg q];rw[aN]at q;simp[q];exact eH [0] [1]
def I9(ki:PS->fZ × PS)(q:PS):(o9 L ki q).1=[]\/∃T,(o9 L ki q).1=[T]:=by
 unfold o9;split
 ·exact .inr ⟨_,rfl⟩
 ·exact .inl rfl
theorem zCQ(hL:iR L)(hl:L.length<=10000){d:Nat}{ki:PS->fZ × PS}(hk:gF L ki)(Hk:ow L d ki)(p:PS)(h:p.at'<L.length)(hd:p.deep=d):
  MCall Pg 117 [.c (.ptr 0 0)] [jb L p] (.tup [.c (.d (.str (qZ L ki p).1.1)),.c (.d (.sl false 4 ((qZ L ki p).1.2.map fZ.enc)))]) [jb L (qZ L ki p).2]:=by
 refine Er mU λts hts ok hb c hN hp=>?_;obtain⟨t,rfl⟩:=mV hts;have t1:=iP hL h (s:=bs [40]);have t2:=t1.trans (lS hL t1.lt);have t3:=t2.trans (y8 hL hk _ t2.lt);have t4:=t3.trans (iP hL t3.lt (s:=bs [41]));have c1:=nQ hL (bs [40]) p h hl;have c2:=wO _ t1.lt hl;have c3:=FH hL hl Hk _ t2.lt (by rw[t2.deep,hd]);have c4:=nQ hL (bs [41]) _ t3.lt hl;have c5:=FH hL hl Hk _ t4.lt (by rw[t4.deep,hd]);have n1:=I9 (L:=L) ki (iN L (iV L (bs [40]) p)).2;have n2:=I9 (L:=L) ki (iV L (bs [41]) (o9 L ki (iN L (iV L (bs [40]) p)).2).2);unfold Dh qZ;simp only;generalize iV L (bs [40]) p=p1 at*
 generalize (iN L p1).1=s1 at*
 generalize (iN L p1).2=p2 at*
 generalize (o9 L ki p2).1=A at*
 generalize (o9 L ki p2).2=p3 at*
 generalize iV L (bs [41]) p3=p4 at*
 generalize (o9 L ki p4).1=B at*
 generalize (o9 L ki p4).2=p5 at*
 simp;refine fO [0] c1 ?_;simp;refine fO [0] c2 ?_;simp;refine fO [0] c3 ?_;simp;refine fO [0] c4 ?_;simp;refine fO [0] c5 ?_;have hn:noT.enc=[.int .i64 0,.str (bs []),.sl false 1 [],.sl false 4 []]:=rfl;rcases n1 with rfl|⟨T,rfl⟩<;>rcases n2 with rfl|⟨U,rfl⟩<;>simp
 ·refine eU [] ?_;simp;exact eF [0] [1] (by simp[hn,AV.erds])
 ·refine eU [2] ?_;simp[jT];exact eF [0] [1] (by simp[hn,AV.erds])
 ·refine eU [] ?_;simp;exact eF [0] [1] (by simp[hn,AV.erds])
 ·refine eU [2] ?_;simp[jT];exact eF [0] [1] (by simp[hn,AV.erds])
def wP(L:List Tok)(d:Nat)(k:Int)(rk:PS->fo × PS):Prop:=∀p:PS,p.at'<L.length->p.deep=d->MCall Pg 198 [.c (.ptr 0 0),.c (.d (.int .i64 k))] [jb L p] (.ag ((rk p).1.enc.map .d)) [jb L (rk p).2]
def oU(p:PS)(k:Int)(t:di)(n:Int)(ts:List fZ)(ns:List di)(ks:List fo):(kM L p k t n ts ns ks).enc=[.int .i64 k,.str t,.int .i64 n,.int .i64 (gU L p).line,.int .i64 (gU L p).col,.sl false 4 (ts.map fZ.enc),.sl false 1 (encS ns),.sl false 8 (ks.map fo.enc)]:=by
 unfold kM;rw[fo.enc_eq];try rfl
def zCR(hL:iR L)(hl:L.length<=10000){d:Nat}{ki:PS->fZ × PS}{ex rk:PS->fo × PS}(hk:gF L ki)(Hk:ow L d ki)(he:gF L ex)(He:mh L 118 d ex)(Hr:wP L d 0 rk)(p:PS)(h:p.at'<L.length)(hd:p.deep=d):
  MCall Pg 165 [.c (.ptr 0 0)] [jb L p] (.ag ((yZ L ki ex rk p).1.enc.map .d)) [jb L (yZ L ki ex rk p).2]:=by
 refine zAt mU λts hts ok hb c hN hp=>?_;obtain⟨t,rfl⟩:=mV hts;have c0:=Dn (L:=L) 5 p h;have c1:=lT rW p h hl;unfold TM yZ;simp;refine fO [0] c0 ?_;simp;refine fO [0] c1 ?_;by_cases q1:(gG L rW p).1=true
 ·rw[aB q1];have t1:=iF hL h (s:=rW);have t2:=t1.trans (lS hL t1.lt);have t3:=t2.trans (y8 hL hk _ t2.lt);have t4:=t3.trans (iP hL t3.lt (s:=bs [61]));have t5:=t4.trans (he _ t4.lt);have t6:=t5.trans (iP hL t5.lt (s:=bs [59]));have a1:=wO _ t1.lt hl;have a2:=FH hL hl Hk _ t2.lt (by rw[t2.deep,hd]);have a3:=nQ hL (bs [61]) _ t3.lt hl;have a4:=He _ t4.lt (by rw[t4.deep,hd]);have a5:=nQ hL (bs [59]) _ t5.lt hl;have a6:=He _ t6.lt (by rw[t6.deep,hd]);generalize (gG L rW p).2=p1 at*
  generalize (iN L p1).1=s1 at*
  generalize (iN L p1).2=p2 at*
  generalize (o9 L ki p2).1=A at*
  generalize (o9 L ki p2).2=p3 at*
  generalize iV L (bs [61]) p3=p4 at*
  generalize (ex p4).1=V at*
  generalize (ex p4).2=p5 at*
  generalize iV L (bs [59]) p5=p6 at*
  generalize (ex p6).1=B at*
  generalize (ex p6).2=p7 at*
  simp[q1];refine fO [0] a1 ?_;simp;refine fO [0] a2 ?_;simp;refine fO [0] a3 ?_;simp;refine fO [0] a4 ?_;simp;refine fO [0] a5 ?_;simp;refine fO [0] a6 ?_;simp;exact eF [0] [1] (by simp[oU,encS])
 ·rw[aA q1,kg q1];rw[aN]at q1;have c2:=lT zY p h hl;simp[q1];refine fO [0] c2 ?_;by_cases q2:(gG L zY p).1=true
  ·rw[aB q2];have t1:=iF hL h (s:=zY);have t2:=t1.trans (he _ t1.lt);have t3:=t2.trans (iP hL t2.lt (s:=Bh));have t4:=t3.trans (he _ t3.lt);have t5:=t4.trans (iP hL t4.lt (s:=Bi));have a1:=He _ t1.lt (by rw[t1.deep,hd]);have a2:=nQ hL Bh _ t2.lt hl;have a3:=He _ t3.lt (by rw[t3.deep,hd]);have a4:=nQ hL Bi _ t4.lt hl;have a5:=He _ t5.lt (by rw[t5.deep,hd]);generalize (gG L zY p).2=p1 at*
   generalize (ex p1).1=C at*
   generalize (ex p1).2=p2 at*
   generalize iV L Bh p2=p3 at*
   generalize (ex p3).1=A at*
   generalize (ex p3).2=p4 at*
   generalize iV L Bi p4=p5 at*
   generalize (ex p5).1=B at*
   generalize (ex p5).2=p6 at*
   simp[q2];refine fO [0] a1 ?_;simp;refine fO [0] a2 ?_;simp;refine fO [0] a3 ?_;simp;refine fO [0] a4 ?_;simp;refine fO [0] a5 ?_;simp;exact eF [0] [1] (by simp[oU,encS])
  ·rw[aA q2,kg q2];rw[aN]at q2;have c3:=lT sP p h hl;simp[q2];refine fO [0] c3 ?_;by_cases q3:(gG L sP p).1=true
   ·rw[aB q3];have t1:=iF hL h (s:=sP);have t2:=t1.trans (Ai hL hk _ t1.lt);have t3:=t2.trans (iP hL t2.lt (s:=bs [61,62]));have a1:=zCQ hL hl hk Hk _ t1.lt (by rw[t1.deep,hd]);have a2:=nQ hL (bs [61,62]) _ t2.lt hl;have a3:=He _ t3.lt (by rw[t3.deep,hd]);generalize (gG L sP p).2=p1 at*
    generalize (qZ L ki p1).1.1=s1 at*
    generalize (qZ L ki p1).1.2=A at*
    generalize (qZ L ki p1).2=p2 at*
    generalize iV L (bs [61,62]) p2=p3 at*
    generalize (ex p3).1=B at*
    generalize (ex p3).2=p4 at*
    simp[q3];refine fO [0] a1 ?_;simp;refine fO [0] a2 ?_;simp;refine fO [0] a3 ?_;simp;exact eF [0] [1] (by simp[oU,encS])
   ·rw[aA q3,kg q3];rw[aN]at q3;have a1:=Hr p h hd;simp[q3];refine fO [0] a1 ?_;simp;exact eH [0] [1]
end
end Go.Gr
namespace Go.Gr
open Go.Abs Go.Proofs List
def UD:∀v:List D,(D.erdL v).length=v.length
|[]=>rfl
|d::v=>by simp only[D.erdL,length_cons,UD v]
@[simp] theorem zHW(v:List D):List.map (AC.erd∘AC.d) v=(D.erdL v).map .d:=by rw[<-dK,UA]
def Ia{v:List D}{a:fo}(h:D.erdL v=a.enc):v.length=8:=by rw[<-UD,h];simp
def UE{v:List D}{a:fo}(h:D.erdL v=a.enc):cut (v.map AC.d) 0 8=v.map .d:=by
 have:=Ia h;unfold cut;simp[this]
def UF{v:List D}{a:fo}(h:D.erdL v=a.enc):cut v 0 8=v:=by
 have:=Ia h;unfold cut;simp[this]
abbrev UG:List (List D):=[[.sl true 1 [[.str (bs [111,114])]]],[.sl true 1 [[.str (bs [97,110,100])]]],[.sl true 1 []],[.sl true 1 [[.str (bs [43,43])]]],[.sl true 1 [[.str (bs [43])],[.str (bs [45])],[.str (bs [94])]]],[.sl true 1 [[.str (bs [42])],[.str (bs [47])],[.str (bs [37])],[.str (bs [38])],[.str (bs [60,60])],[.str (bs [62,62])]]]]
def zET{k:Nat}(h:k<6):UG[k]?=some [.sl true 1 (encS (qb k))]:=by
 match k,h with
 |0,_=>rfl
 |1,_=>rfl
 |2,_=>rfl
 |3,_=>rfl
 |4,_=>rfl
 |5,_=>rfl
def zBw{k:Nat}:(qb k).length<=6:=by
 unfold qb;split<;>simp
section
variable {L:List Tok}
def xg(L:List Tok)(rk:PS->fo × PS)(signs:List di)(n i:Nat)(a:fo)(p:PS):fo × PS:=match uO L (signs.drop i) p with
|none=>(a,p)
|some (s,q)=>kN L rk signs n (kM L p 14 s 0 [] [] [a,(rk q).1]) (rk q).2
def UH(rk:PS->fo × PS)(signs:List di)(n:Nat)(a:fo)(p:PS):kN L rk signs (n+1) a p=xg L rk signs n 0 a p:=by
 rw[kN];unfold xg;rw[drop_zero];try rfl
abbrev xh:Blk:=.box [.d (.int .i64 0),.d (.str (bs [])),.d (.int .i64 0),.d (.int .i64 0),.d (.int .i64 0),.d (.sl true 4 []),.d (.sl true 1 []),.d (.sl true 8 [])]
def FI(hL:iR L)(hl:L.length<=10000){d k:Nat}(hk:k<6)(hk2:k≠2){rk:PS->fo × PS}(hr:gF L rk)(Hr:wP L d (k+1:Nat) rk):
  wP L d k (λp=>kN L rk (qb k) (L.length+1) (rk p).1 (rk p).2):=by
 intro p h hd;refine L9 mU λts hts ok hb c hN hp=>?_;obtain⟨t,rfl⟩:=mV hts;have c1:=Hr p h hd;have t1:=hr p h;have h6:¬((k:Int)=6):=by omega
 have h2:¬((k:Int)=2):=by omega
 have hw:IntKind.i64.wrap ((k:Int)+1)=((k+1:Nat):Int):=by rw[wI];omega
 have hT:=zET hk;have hs6:=zBw (k:=k);simp only;obtain⟨F0,hF0⟩:∃F0,kN L rk (qb k) (L.length+1) (rk p).1 (rk p).2=F0:=⟨_,rfl⟩
 rw[hF0];rw[UH]at hF0;generalize (rk p).1=A at*
 generalize (rk p).2=p1 at*
 unfold I5;simp[h6,h2,hw];refine fO [0] c1 ?_;generalize qb k=sg at*
 have hd1:p1.deep=d:=by rw[t1.deep,hd]
 simp;generalize hTT:UG=TT at*
 refine eP gD hp (λx:Nat × Nat × fo × List D × PS=>xg L rk sg x.1 x.2.1 x.2.2.1 x.2.2.2.2=F0/\Tm L p1 x.2.2.2.2/\L.length<x.1+1+x.2.2.2.2.at'/\x.2.1<=sg.length/\D.erdL x.2.2.2.1=x.2.2.1.enc)
  (λx=>[(0,.c (.ptr 0 0)),(1,.c (.d (.int .i64 k))),(4,.c (.ptr 2 0)),(5,.c (.d (.sl true 1 TT))),(6,.c (.ptr 3 0)),(7,.c (.d (.int .i64 x.2.1)))])
  (λx=>[jb L x.2.2.2.2,.pin t 0,xh,.box (x.2.2.2.1.map .d)])
  (λx=>x.1*7+(sg.length-x.2.1)) (L.length,0,A,A.enc,p1) [0,1,2,3] ⟨hF0,Tm.refl t1.lt,by simp only;omega,by simp,by simp⟩ (by simp[<-hTT]) λ⟨n,i,a,v,q⟩ ⟨i1,i2,i3,i4,i5⟩=>?_
 unfold TN;simp only at i1 i2 i4 i5;have i3:L.length<n+1+q.at':=i3;have hlt:=i2.lt;have hcut:=UE i5;have hcut':=UF i5;have hvl:=Ia i5;simp[hT];apply fM<;>intro hj
 ·have hj:i<sg.length:=by simpa using hj
  have hg:sg[i]?=some sg[i]:=aD hj;have a0:=Dn (L:=L) 14 q hlt;have a1:=lT sg[i] q hlt hl;unfold xg at i1;rw[aG hj,uO]at i1;generalize sg[i]=s at*
  refine fO [0] a0 ?_;simp[hT,hg];refine fO [0] a1 ?_;by_cases q1:(gG L s q).1=true
  ·rw[aB q1]at i1;simp only at i1;have ha:=(take_at q1).1;have e1:=iF hL hlt (s:=s);have a2:=Hr _ e1.lt (by rw[e1.deep,i2.deep,hd1]);have e2:=e1.trans (hr _ e1.lt);have hle:=(hr _ e1.lt).le;obtain⟨n,rfl⟩:∃m,n=m+1:=⟨n-1,by have:=e1.lt;omega⟩
   rw[UH]at i1;generalize (gG L s q).2=q2 at*
   generalize (rk q2).1=B at*
   generalize (rk q2).2=q3 at*
   simp[q1,hw];refine fO [0] a2 ?_;simp[hT,hg,hvl,hcut,hcut'];refine dm (n,0,kM L q 14 s 0 [] [] [a,B],([.int .i64 14,.str s,.int .i64 0,.int .i64 (gU L q).line,.int .i64 (gU L q).col,.sl true 4 [],.sl true 1 [],.sl true 8 [v,B.enc]]:List D),q3) [0,1,2,3] ⟨i1,i2.trans e2,by simp only;omega,by simp,?_⟩ (by simp;omega) ?_
   ·simp[oU,i5,encS]
   ·simp
  ·rw[aA q1]at i1;rw[kg q1];rw[aN]at q1;simp[q1];refine dm (n,i+1,a,v,q) [0,1,2,3] ⟨i1,i2,by simp only;omega,by simp only;omega,i5⟩ (by simp only;omega) ?_;simp;exact wI
 ·have hj:i=sg.length:=by simp at hj;omega
  subst hj;unfold xg at i1;rw[aQ,uO]at i1;have i1:(a,q)=F0:=i1;rw[<-i1];simp[hvl,hcut];exact eF [0] [1] (by simp[hcut,i5])
def zBx{d:Nat}{un:PS->fo × PS}(Hu:mh L 219 d un):wP L d 6 un:=by
 intro p h hd;refine L9 mU λts hts ok hb c hN hp=>?_;obtain⟨t,rfl⟩:=mV hts;have c1:=Hu p h hd;unfold I5;simp;refine fO [0] c1 ?_;simp;exact eH [0] [1]
def zBy{d:Nat}{un:PS->fo × PS}(Hu:mh L 220 d un):wP L d 2 un:=by
 intro p h hd;refine L9 mU λts hts ok hb c hN hp=>?_;obtain⟨t,rfl⟩:=mV hts;have c1:=Hu p h hd;unfold I5;simp;refine fO [0] c1 ?_;simp;exact eH [0] [1]
end
section
variable {L:List Tok}
abbrev qg:List di:=[bs [60],bs [60,61],bs [61,61]]
theorem zEv(hL:iR L)(hl:L.length<=10000){d:Nat}{ki:PS->fZ × PS}{rk:PS->fo × PS}(hk:gF L ki)(Hk:ow L d ki)(hr:gF L rk)(Hr:wP L d 3 rk):
  mh L 220 d (qc L ki rk):=by
 intro p h hd;refine zBL mU λts hts ok hb c hN hp=>?_;obtain⟨t,rfl⟩:=mV hts;have c1:=Hr p h hd;have t1:=hr p h;have a0:=Dn (L:=L) 14 _ t1.lt;obtain⟨F0,hF0⟩:∃F0,qc L ki rk p=F0:=⟨_,rfl⟩
 rw[hF0];unfold qc at hF0;simp only at hF0;rw[show rk p=((rk p).1,(rk p).2)from rfl]at hF0;simp only at hF0;generalize (rk p).1=A at*
 generalize (rk p).2=p1 at*
 have hd1:p1.deep=d:=by rw[t1.deep,hd]
 unfold TR;simp;refine fO [0] c1 ?_;simp;refine fO [0] a0 ?_;simp
 refine eP gD hp (λj:Nat=>j<=3/\uO L (qg.drop j) p1=uO L qg p1)
  (λj=>[(0,.c (.ptr 0 0)),(2,.c (.ptr 2 0)),(3,.c (.ptr 3 0)),(4,.c (.ptr 4 0)),(5,.c (.d (.sl true 1 (encS qg)))),(6,.c (.d (.int .i64 j)))])
  (λj=>[jb L p1,.pin t 0,xh,.box (A.enc.map .d),.box [.d (.int .i64 14),.d (.str (bs [])),.d (.int .i64 0),.d (.int .i64 (gU L p1).line),.d (.int .i64 (gU L p1).col),.d (.sl true 4 []),.d (.sl true 1 []),.d (.sl true 8 [])]])
  (λj=>3-j) 0 [0,1,2,3,4] ⟨by simp,rfl⟩ (by simp[encS]) λj ⟨i1,i2⟩=>?_
 unfold TP;have hsl:qg.length=3:=rfl;simp[hsl];apply fM<;>intro h3
 ·have hj:j<qg.length:=by simp at h3;omega
  have hj':j<3:=by omega
  rw[aG hj,uO]at i2;have hg:qg[j]?=some qg[j]:=aD hj;have ht:=lT qg[j] p1 t1.lt hl;generalize qg[j]=s at*
  simp[hg];refine fO [0] ht ?_;by_cases q:(gG L s p1).1=true
  ·rw[aB q]at i2;rw[<-i2]at hF0;have hF0:(kM L p1 14 s 0 [] [] [A,(rk (gG L s p1).2).1],(rk (gG L s p1).2).2)=F0:=hF0;rw[<-hF0];have e1:=iF hL t1.lt (s:=s);have a2:=Hr _ e1.lt (by rw[e1.deep,hd1]);simp only;generalize (gG L s p1).2=p2 at*
   generalize (rk p2).1=B at*
   generalize (rk p2).2=p3 at*
   simp[q];refine fO [0] a2 ?_;simp[hg];exact eF [0] [1] (by simp[oU,encS])
  ·rw[aA q]at i2;rw[kg q];rw[aN]at q;simp[q];refine dm (j+1) [0,1,2,3,4] ⟨by omega,i2⟩ (by omega) ?_;simp;exact wI
 ·have hj:j=3:=by simp at h3;omega
  subst hj;have i2:uO L qg p1=none:=by rw[<-i2];try rfl
  rw[i2]at hF0;simp only at hF0;have b1:=lT (bs [97,115]) p1 t1.lt hl;simp;refine fO [0] b1 ?_;by_cases q1:(gG L (bs [97,115]) p1).1=true
  ·rw[aB q1]at hF0;have e1:=iF hL t1.lt (s:=bs [97,115]);have a2:=Hk _ e1.lt (by rw[e1.deep,hd1]);rw[<-hF0];simp only;generalize (gG L (bs [97,115]) p1).2=p2 at*
   generalize (ki p2).1=T at*
   generalize (ki p2).2=p3 at*
   simp[q1];refine fO [0] a2 ?_;simp;exact eF [0] [1] (by simp[oU,encS])
  ·rw [aA q1]at hF0;rw[kg q1];rw[aN]at q1;have b2:=lT (bs [105,115]) p1 t1.lt hl;simp[q1];refine fO [0] b2 ?_;by_cases q2:(gG L (bs [105,115]) p1).1=true
   ·rw[aB q2]at hF0;have e1:=iF hL t1.lt (s:=bs [105,115]);generalize (gG L (bs [105,115]) p1).2=p2 at*
    simp[q2]
    refine eP gD hp (λj:Nat=>j<=6/\uh L j (wH.drop j) p2=uh L 0 wH p2)
     (λj=>[(0,.c (.ptr 0 0)),(2,.c (.ptr 2 0)),(4,.c (.ptr 4 0)),(9,.c (.d (.sl true 1 (encS wH)))),(10,.c (.d (.int .i64 j)))])
     (λj=>[jb L p2,.pin t 0,xh,.box (A.enc.map .d),.box [.d (.int .i64 12),.d (.str (bs [])),.d (.int .i64 0),.d (.int .i64 (gU L p1).line),.d (.int .i64 (gU L p1).col),.d (.sl true 4 []),.d (.sl true 1 []),.d (.sl true 8 [A.enc])]])
     (λj=>6-j) 0 [0,1,2,3,4] ⟨by simp,rfl⟩ (by simp[encS,wH]) λj ⟨j1,j2⟩=>?_
    unfold TQ;have htl:wH.length=6:=rfl;simp[htl];apply fM<;>intro h6
    ·have hj:j<wH.length:=by simp at h6;omega
     have hj':j<6:=by omega
     rw[aG hj,uh]at j2;have hg:wH[j]?=some wH[j]:=aD hj;have ht:=lT wH[j] p2 e1.lt hl;generalize wH[j]=s at*
     simp[hg];refine fO [0] ht ?_;by_cases q:(gG L s p2).1=true
     ·rw[aB q]at j2;rw[<-j2]at hF0;have hF0:(kM L p1 12 (bs []) j [] [] [A],(gG L s p2).2)=F0:=hF0;rw[<-hF0];simp[q];exact eF [0] [1] (by simp[oU,encS])
     ·rw[aA q]at j2;rw[kg q];rw[aN]at q;simp[q];refine dm (j+1) [0,1,2,3,4] ⟨by omega,j2⟩ (by omega) ?_;simp;exact wI
    ·have hj:j=6:=by simp at h6;omega
     subst hj;have j2:uh L 0 wH p2=none:=by rw[<-j2];try rfl
     rw[j2]at hF0;have hF0:(kM L p1 12 (bs []) 0 [] [] [A],vO L 7 p2)=F0:=hF0;rw[<-hF0];have b3:=FF (L:=L) 7 p2 e1.lt;simp;refine fO [0] b3 ?_;simp;exact eF [0] [1] (by simp[oU,encS])
   ·rw[aA q2]at hF0;rw[kg q2,<-hF0];rw[aN]at q2;simp[q2];exact eH [0] [1]
end
end Go.Gr
namespace Go.Gr
open Go.Abs Go.Proofs
section
variable {L:List Tok}
def zDy(hL:iR L)(hl:L.length<=10000){d:Nat}{at_ ex:PS->fo × PS}(ha:gF L at_)(Ha:mh L 255 d at_)(he:gF L ex)(He:mh L 118 d ex):
  mh L 238 d (λp=>rY L ex (L.length+1) (at_ p).1 (at_ p).2):=by
 intro p h hd;refine zAu mU λts hts ok hb c hN hp=>?_;obtain⟨t,rfl⟩:=mV hts;have c1:=Ha p h hd;have t1:=ha p h;simp only;obtain⟨F0,hF0⟩:∃F0,rY L ex (L.length+1) (at_ p).1 (at_ p).2=F0:=⟨_,rfl⟩
 rw[hF0];generalize (at_ p).1=A at*
 generalize (at_ p).2=p1 at*
 have hd1:p1.deep=d:=by rw[t1.deep,hd]
 unfold TV;simp;refine fO [0] c1 ?_;simp
 refine eP gD hp (λx:Nat × fo × List D × PS=>rY L ex x.1 x.2.1 x.2.2.2=F0/\Tm L p1 x.2.2.2/\L.length<x.1+x.2.2.2.at'/\D.erdL x.2.2.1=x.2.1.enc)
  (λx=>[(0,.c (.ptr 0 0)),(2,.c (.ptr 2 0)),(3,.c (.ptr 3 0))])
  (λx=>[jb L x.2.2.2,.pin t 0,xh,.box (x.2.2.1.map .d)])
  (λx=>x.1) (L.length+1,A,A.enc,p1) [0,1,2,3] ⟨hF0,Tm.refl t1.lt,by simp only;omega,by simp⟩ (by simp) λ⟨n,a,v,q⟩ ⟨i1,i2,i3,i5⟩=>?_
 unfold TU;simp only at i1 i2 i5;have i3:L.length<n+q.at':=i3;have hlt:=i2.lt;have hcut:=UE i5;have hcut':=UF i5;have hvl:=Ia i5;obtain⟨n,rfl⟩:∃m,n=m+1:=⟨n-1,by omega⟩
 rw[rY]at i1;have a0:=Dn (L:=L) 7 q hlt;have a1:=lT (bs [40]) q hlt hl;simp;refine fO [0] a0 ?_;simp;refine fO [0] a1 ?_;by_cases q1:(gG L (bs [40]) q).1=true
 ·rw[aB q1]at i1;simp only at i1;have hat:=(take_at q1).1;have e1:=iF hL hlt (s:=bs [40]);have e2:=e1.trans (he _ e1.lt);have e3:=e2.trans (iP hL e2.lt (s:=bs [41]));have le1:=(he _ e1.lt).le;have le2:=(iP hL e2.lt (s:=bs [41])).le;have a2:=He _ e1.lt (by rw[e1.deep,i2.deep,hd1]);have a3:=nQ hL (bs [41]) _ e2.lt hl;generalize (gG L (bs [40]) q).2=q2 at*
  generalize (ex q2).1=B at*
  generalize (ex q2).2=q3 at*
  generalize iV L (bs [41]) q3=q4 at*
  simp[q1];refine fO [0] a2 ?_;simp;refine fO [0] a3 ?_;simp[hvl,hcut,hcut'];refine dm (n,kM L q 7 (bs []) 0 [] [] [a,B],([.int .i64 7,.str (bs []),.int .i64 0,.int .i64 (gU L q).line,.int .i64 (gU L q).col,.sl true 4 [],.sl true 1 [],.sl true 8 [v,B.enc]]:List D),q4) [0,1,2,3] ⟨i1,i2.trans e3,by simp only;omega,?_⟩ (by simp) ?_
  ·simp[oU,i5,encS]
  ·simp
 ·rw[aA q1]at i1;rw[kg q1];rw[aN]at q1;have a2:=lT (bs [46]) q hlt hl;simp[q1];refine fO [0] a2 ?_;by_cases q2:(gG L (bs [46]) q).1=true
  ·rw[aB q2]at i1;simp only at i1;have hat:=(take_at q2).1;have e1:=iF hL hlt (s:=bs [46]);have e2:=e1.trans (lS hL e1.lt);have le1:=(lS hL e1.lt).le;have a3:=wO _ e1.lt hl;generalize (gG L (bs [46]) q).2=q2' at*
   generalize (iN L q2').1=s at*
   generalize (iN L q2').2=q3 at*
   simp[q2];refine fO [0] a3 ?_;simp[hvl,hcut,hcut'];refine dm (n,kM L q 9 s 0 [] [] [a],([.int .i64 9,.str s,.int .i64 0,.int .i64 (gU L q).line,.int .i64 (gU L q).col,.sl true 4 [],.sl true 1 [],.sl true 8 [v]]:List D),q3) [0,1,2,3] ⟨i1,i2.trans e2,by simp only;omega,?_⟩ (by simp) ?_
   ·simp[oU,i5,encS]
   ·simp
  ·rw[aA q2]at i1;rw[kg q2,<-i1];rw[aN]at q2;simp[q2,hvl,hcut,hcut'];exact eF [0] [1] (by simp[hcut,i5])
def UI(hL:iR L)(hl:L.length<=10000){ki:PS->fZ × PS}{ex un:PS->fo × PS}(hk:gF L ki)(he:gF L ex)(hu:gF L un)(p:PS)(h:p.at'<L.length)(hd:p.deep<=100)
  (Hu:p.deep<100->mh L 219 (p.deep+1) un) (Hp:p.deep<100->mh L 238 (p.deep+1) (Bu L ki ex)):
  MCall Pg 219 [.c (.ptr 0 0)] [jb L p] (.ag ((if(ic L p).1=true then tL (y5 L ki ex un (ic L p).2)else(mZ,(ic L p).2)).1.enc.map .d)) [jb L (if(ic L p).1=true then tL (y5 L ki ex un (ic L p).2)else(mZ,(ic L p).2)).2]:=by
 have ce:=Lj p h (by omega);refine zyN mU λts hts ok hb c hN hp=>?_;obtain⟨t,rfl⟩:=mV hts;unfold TS;simp;refine fO [0] ce ?_;by_cases q:(ic L p).1=true
 ·rw[aB q];obtain⟨e1,e2,e3⟩:=y7 q;have hp1:(ic L p).2.at'<L.length:=by rw[e1];exact h
  have hd1:(ic L p).2.deep=p.deep+1:=by rw[e1]
  have Hu:=Hu e2;have Hp:=Hp e2;have a0:=Dn (L:=L) 16 _ hp1;have a1:=lT (bs [45]) _ hp1 hl;unfold tL y5;simp only;generalize (ic L p).2=p1 at*
  simp[q];refine fO [0] a0 ?_;simp;refine fO [0] a1 ?_;by_cases q1:(gG L (bs [45]) p1).1=true
  ·rw[aB q1];have t1:=iF hL hp1 (s:=bs [45]);have t2:=t1.trans (hu _ t1.lt);have a2:=Hu _ t1.lt (by rw[t1.deep,hd1]);have hd3:=t2.deep;rw[hd1]at hd3;simp only;generalize (gG L (bs [45]) p1).2=p2 at*
   generalize (un p2).1=A at*
   generalize (un p2).2=p3 at*
   have hw:IntKind.i64.wrap ((p3.deep:Int)-1)=((p3.deep-1:Nat):Int):=by rw[wI];omega
   simp[q1];refine fO [0] a2 ?_;simp;exact eF [0] [1] (by simp[oU,encS,hw])
  ·rw[aA q1,kg q1];rw[aN]at q1;have a2:=lT r9 _ hp1 hl;simp[q1];refine fO [0] a2 ?_;by_cases q2:(gG L r9 p1).1=true
   ·rw[aB q2];have t1:=iF hL hp1 (s:=r9);have t2:=t1.trans (hu _ t1.lt);have a2:=Hu _ t1.lt (by rw[t1.deep,hd1]);have hd3:=t2.deep;rw[hd1]at hd3;simp only;generalize (gG L r9 p1).2=p2 at*
    generalize (un p2).1=A at*
    generalize (un p2).2=p3 at*
    have hw:IntKind.i64.wrap ((p3.deep:Int)-1)=((p3.deep-1:Nat):Int):=by rw[wI];omega
    simp[q2];refine fO [0] a2 ?_;simp;exact eF [0] [1] (by simp[oU,encS,hw])
   ·rw[aA q2,kg q2];rw[aN]at q2;have t2:=Tw hL hk he p1 hp1;have a3:=Hp p1 hp1 hd1;have hd3:=t2.deep;rw[hd1]at hd3;generalize (Bu L ki ex p1).1=A at*
    generalize (Bu L ki ex p1).2=p3 at*
    have hw:IntKind.i64.wrap ((p3.deep:Int)-1)=((p3.deep-1:Nat):Int):=by rw[wI];omega
    simp[q2];refine fO [0] a3 ?_;simp;exact eO [0] [1] (by simp[hw])
 ·rw[aA q];rw[aN]at q;simp[q];exact eF [0] [1] (by simp[mZ,fo.enc,fo.encs,encS])
def UJ(hL:iR L)(hl:L.length<=10000){B:PS->fo × PS}(hB:gF L B)(p:PS)(h:p.at'<L.length)(hd:p.deep<=100)(HB:p.deep<100->mh L 165 (p.deep+1) B):
  MCall Pg 118 [.c (.ptr 0 0)] [jb L p] (.ag ((if(ic L p).1=true then tL (B (ic L p).2)else(mZ,(ic L p).2)).1.enc.map .d)) [jb L (if(ic L p).1=true then tL (B (ic L p).2)else(mZ,(ic L p).2)).2]:=by
 have ce:=Lj p h (by omega);refine zAs mU λts hts ok hb c hN hp=>?_;obtain⟨t,rfl⟩:=mV hts;unfold TL;simp;refine fO [0] ce ?_;by_cases q:(ic L p).1=true
 ·rw[aB q];obtain⟨e1,e2,e3⟩:=y7 q;have hp1:(ic L p).2.at'<L.length:=by rw[e1];exact h
  have hd1:(ic L p).2.deep=p.deep+1:=by rw[e1]
  have HB:=HB e2;have a0:=HB _ hp1 hd1;have t1:=hB _ hp1;have hd3:=t1.deep;rw[hd1]at hd3;unfold tL;simp only;generalize (ic L p).2=p1 at*
  generalize (B p1).1=A at*
  generalize (B p1).2=p2 at*
  have hw:IntKind.i64.wrap ((p2.deep:Int)-1)=((p2.deep-1:Nat):Int):=by rw[wI];omega
  simp[q];refine fO [0] a0 ?_;simp;exact eO [0] [1] (by simp[hw])
 ·rw[aA q];rw[aN]at q;simp[q];exact eF [0] [1] (by simp[mZ,fo.enc,fo.encs,encS])
end
end Go.Gr
namespace Go.Gr
open Go.Abs Go.Proofs List
section
variable {L:List Tok}
def zBR(hL:iR L)(hl:L.length<=10000){d:Nat}{ki:PS->fZ × PS}(hk:gF L ki)(Hk:ow L d ki)(p:PS)(h:p.at'<L.length)(hd:p.deep=d):
  MCall Pg 275 [.c (.ptr 0 0)] [jb L p] (.c (.d (.sl false 4 ((vQ L ki (L.length+1) [] p).1.map fZ.enc)))) [jb L (vQ L ki (L.length+1) [] p).2]:=by
 refine zyO mU λts hts ok hb c hN hp=>?_;obtain⟨t,rfl⟩:=mV hts;obtain⟨F0,hF0⟩:∃F0,vQ L ki (L.length+1) [] p=F0:=⟨_,rfl⟩
 rw[hF0];unfold T9;simp;refine eY [.t 3] ?_;simp
 refine eP gD hp (λx:Nat × List fZ × PS=>vQ L ki x.1 x.2.1 x.2.2=F0/\Tm L p x.2.2/\L.length<x.1+x.2.2.at'/\x.2.1.length<=x.2.2.at')
  (λx=>[(0,.c (.ptr 0 0)),(3,.c (.msl 4 2 0 x.2.1.length))])
  (λx=>[jb L x.2.2,.pin t 0,.arr 4 ((x.2.1.map fZ.enc).map (·.map .d))])
  (λx=>x.1) (L.length+1,[],p) [0,1,2] ⟨hF0,Tm.refl h,by simp only;omega,by simp⟩ (by simp) λ⟨n,l,q⟩ ⟨i1,i2,i3,i4⟩=>?_
 unfold TZ;simp only at i1 i2 i4;have i3:L.length<n+q.at':=i3;have hlt:=i2.lt;obtain⟨n,rfl⟩:∃m,n=m+1:=⟨n-1,by omega⟩
 rw[vQ]at i1;have e1:=hk q hlt;have le1:=e1.le;have a1:=Hk q hlt (by rw[i2.deep,hd]);have a2:=lT (bs [44]) _ e1.lt hl;generalize (ki q).1=T at*
 generalize (ki q).2=q1 at*
 simp;refine fO [0] a1 ?_;simp;refine⟨by omega,?_⟩;refine fO [0] a2 ?_;by_cases q2:(gG L (bs [44]) q1).1=true
 ·rw[aB q2]at i1;have hat:=(take_at q2).1;have e2:=e1.trans (iF hL e1.lt (s:=bs [44]));generalize (gG L (bs [44]) q1).2=q3 at*
  simp[q2];refine dm (n,l++[T],q3) [0,1,4] ⟨i1,i2.trans e2,by simp only;omega,by simp;omega⟩ (by simp) ?_;simp;exact aH (by simp)
 ·rw[aA q2,kg q2]at i1;rw[kg q2,<-i1];rw[aN]at q2;have a3:=nQ hL (bs [93]) _ e1.lt hl;have z:take l.length (List.map ((λx=>List.map AC.d x)∘fZ.enc) l)=List.map ((λx=>List.map AC.d x)∘fZ.enc) l:=aH (by simp);simp[q2];refine eU [4] ?_;simp[jT,z];refine fO [0] a3 ?_;have z2:take (l.length+1) (l.map fZ.enc++[T.enc])=l.map fZ.enc++[T.enc]:=aH (by simp);simp[jT,z];exact eO [0] [1] (by simp[jT,z,z2])
def zAz(hL:iR L)(hl:L.length<=10000){d:Nat}{ex:PS->fo × PS}(he:gF L ex)(He:mh L 118 d ex)(k:Int)(q0 p:PS)(h:p.at'<L.length)(hd:p.deep=d):
  MCall Pg 274 [.c (.ptr 0 0),.ag [.d (.int .i64 k),.d (.str (bs [])),.d (.int .i64 0),.d (.int .i64 (gU L q0).line),.d (.int .i64 (gU L q0).col),.d (.sl true 4 []),.d (.sl true 1 []),.d (.sl true 8 [])]] [jb L p] (.ag ((ui L ex q0 p).1.enc.map .d)) [jb L (ui L ex q0 p).2]:=by
 refine zxl mU λts hts ok hb c hN hp=>?_;obtain⟨t,rfl⟩:=mV hts;have a1:=lT (bs [125]) p h hl;unfold Tc ui;simp;refine fO [0] a1 ?_;by_cases q1:(gG L (bs [125]) p).1=true
 ·rw[aB q1];simp[q1];exact eF [0] [1] (by simp[oU,encS])
 ·rw [aA q1,kg q1];rw[aN]at q1;have hg:=y9 h;have hnx:p.e=0->(gU L p).kind=1->L[p.at'+1]?=some (L.getD (p.at'+1) wC):=λ_ k1=>by
   have hlt:p.at'+1<L.length:=hL.mid _ h (by unfold gU at k1;omega);rw[aF,aD hlt];try rfl
  have hnn:(0:Int)<=(p.at':Int)+1:=by omega
  have hw:IntKind.i64.wrap ((p.at':Int)+1)=((p.at'+1:Nat):Int):=by rw[wI];omega
  generalize hN1:L.getD (p.at'+1) wC=N at*
  by_cases q2:p.e≠0\/(gU L p).kind≠1\/N.kind≠5\/N.text≠bs [58]
  ·rw [aB q2];have t1:=he p h;have t2:=t1.trans (iP hL t1.lt (s:=Bp));have t3:=t2.trans (lS hL t2.lt);have t4:=t3.trans (iP hL t3.lt (s:=bs [58]));have t5:=t4.trans (he _ t4.lt);have b1:=He p h hd;have b2:=nQ hL Bp _ t1.lt hl;have b3:=wO _ t2.lt hl;have b4:=nQ hL (bs [58]) _ t3.lt hl;have b5:=He _ t4.lt (by rw[t4.deep,hd]);have b6:=nQ hL (bs [125]) _ t5.lt hl;simp only;generalize (ex p).1=A at*
   generalize (ex p).2=p1 at*
   generalize iV L Bp p1=p2 at*
   generalize (iN L p2).1=s at*
   generalize (iN L p2).2=p3 at*
   generalize iV L (bs [58]) p3=p4 at*
   generalize (ex p4).1=B at*
   generalize (ex p4).2=p5 at*
   generalize iV L (bs [125]) p5=p6 at*
   generalize gU L p=T at*
   have hcs:p.e≠0\/(p.e=0/\T.kind≠1)\/(p.e=0/\T.kind=1/\N.kind≠5)\/(p.e=0/\T.kind=1/\N.kind=5/\N.text≠bs [58]):=by
    by_cases x1:p.e=0
    ·by_cases x2:T.kind=1
     ·by_cases x3:N.kind=5
      ·rcases q2 with q2|q2|q2|q2
       ·exact absurd x1 q2
       ·exact absurd x2 q2
       ·exact absurd x3 q2
       ·exact .inr (.inr (.inr ⟨x1,x2,x3,q2⟩))
      ·exact .inr (.inr (.inl ⟨x1,x2,x3⟩))
     ·exact .inr (.inl ⟨x1,x2⟩)
    ·exact .inl x1
   have hw:IntKind.i64.wrap ((p.at':Int)+1)=((p.at'+1:Nat):Int):=hw;rcases hcs with x1|⟨x1,x2⟩|⟨x1,x2,x3⟩|⟨x1,x2,x3,x4⟩
   ·simp[q1,hg,x1];refine⟨by decide,?_⟩;refine⟨by decide,?_⟩;refine fP [0] b1 (by simp[x1]) ?_;simp;refine fO [0] b2 ?_;simp;refine fO [0] b3 ?_;simp;refine fO [0] b4 ?_;simp;refine fO [0] b5 ?_;simp;refine fO [0] b6 ?_;simp;exact eF [0] [1] (by simp[oU,encS])
   ·simp[q1,hg,x1,x2];refine⟨by decide,?_⟩;refine⟨by decide,?_⟩;refine fP [0] b1 (by simp[x1]) ?_;simp;refine fO [0] b2 ?_;simp;refine fO [0] b3 ?_;simp;refine fO [0] b4 ?_;simp;refine fO [0] b5 ?_;simp;refine fO [0] b6 ?_;simp;exact eF [0] [1] (by simp[oU,encS])
   ·have hn:=hnx x1 x2;simp[q1,hg,x1,x2,x3,hn,hw,hnn];refine⟨by decide,?_⟩;refine⟨by decide,?_⟩;refine fP [0] b1 (by simp[x1]) ?_;simp;refine fO [0] b2 ?_;simp;refine fO [0] b3 ?_;simp;refine fO [0] b4 ?_;simp;refine fO [0] b5 ?_;simp;refine fO [0] b6 ?_;simp;exact eF [0] [1] (by simp[oU,encS])
   ·have hn:=hnx x1 x2;simp[q1,hg,x1,x2,x3,x4,hn,hw,hnn];refine⟨by decide,?_⟩;refine⟨by decide,?_⟩;refine fP [0] b1 (by simp[x1]) ?_;simp;refine fO [0] b2 ?_;simp;refine fO [0] b3 ?_;simp;refine fO [0] b4 ?_;simp;refine fO [0] b5 ?_;simp;refine fO [0] b6 ?_;simp;exact eF [0] [1] (by simp[oU,encS])
  ·rw[aA q2];have x1:p.e=0:=by
    apply ae;intro x;exact q2 (.inl x)
   have x2:(gU L p).kind=1:=by
    apply ae;intro x;exact q2 (.inr (.inl x))
   have x3:N.kind=5:=by
    apply ae;intro x;exact q2 (.inr (.inr (.inl x)))
   have x4:N.text=bs [58]:=by
    apply ae;intro x;exact q2 (.inr (.inr (.inr x)))
   have hn:=hnx x1 x2;obtain⟨F0,hF0⟩:∃F0,qw L ex (L.length+1) [] [] p=F0:=⟨_,rfl⟩
   simp only;rw[hF0];simp[q1,hg,x1,x2,x3,x4,hn,hw,hnn];refine⟨by decide,?_⟩;refine⟨by decide,?_⟩;refine eY [.c 2 6,.c 2 7] ?_;simp
   refine eP gD hp (λx:Nat × List di × List fo × PS=>qw L ex x.1 x.2.1 x.2.2.1 x.2.2.2=F0/\Tm L p x.2.2.2/\L.length<x.1+x.2.2.2.at'/\x.2.1.length=x.2.2.1.length/\x.2.1.length<=x.2.2.2.at')
    (λx=>[(0,.c (.ptr 0 0)),(3,.c (.ptr 2 0)),(4,.c (.ptr 3 0))])
    (λx=>[jb L x.2.2.2,.pin t 0,.box [.d (.int .i64 8),.d (.str (bs [])),.d (.int .i64 0),.d (.int .i64 (gU L q0).line),.d (.int .i64 (gU L q0).col),.d (.sl true 4 []),.msl 1 4 0 x.2.1.length,.msl 8 5 0 x.2.2.1.length],xh,.arr 1 ((encS x.2.1).map (·.map .d)),.arr 8 ((x.2.2.1.map fo.enc).map (·.map .d))])
    (λx=>x.1) (L.length+1,[],[],p) [0,1,2,3,5,6] ⟨hF0,Tm.refl h,by simp only;omega,rfl,by simp⟩ (by simp[encS,x1]) λ⟨n,ns,ks,q⟩ ⟨i1,i2,i3,i4,i5⟩=>?_
   unfold Ta;simp only at i1 i2 i4 i5;have i3:L.length<n+q.at':=i3;have hlt:=i2.lt;obtain⟨n,rfl⟩:∃m,n=m+1:=⟨n-1,by omega⟩
   rw[qw]at i1;have e1:=lS hL hlt;have e2:=e1.trans (iP hL e1.lt (s:=bs [58]));have e3:=e2.trans (he _ e2.lt);have e4:=e3.trans (iF hL e3.lt (s:=bs [44]));have c1:=wO q hlt hl;have c2:=nQ hL (bs [58]) _ e1.lt hl;have c3:=He _ e2.lt (by rw[e2.deep,i2.deep,hd]);have c4:=lT (bs [44]) _ e3.lt hl;generalize (iN L q).1=s1 at*
   generalize (iN L q).2=q1' at*
   generalize iV L (bs [58]) q1'=q2' at*
   generalize (ex q2').1=k1 at*
   generalize (ex q2').2=q3' at*
   simp;refine fO [0] c1 ?_;simp;refine fO [0] c2 ?_;simp;refine fO [0] c3 ?_;simp;refine⟨by omega,by omega,?_⟩;refine fO [0] c4 ?_;by_cases q5:(gG L (bs [44]) q3').1=true
   ·rw[aB q5]at i1;have ha:=(take_at q5).1;have hb':=e3.le;simp[q5];refine dm (n,ns++[s1],ks++[k1],(gG L (bs [44]) q3').2) [0,1,2,3,7,8] ⟨i1,i2.trans e4,by simp only;omega,by simp[i4],by simp;omega⟩ (by simp) ?_;simp;exact⟨aH (by simp),aH (by simp)⟩
   ·rw[aA q5,kg q5]at i1;rw[<-i1];have c5:=nQ hL (bs [125]) _ e3.lt hl;rw[kg q5];rw[aN]at q5;simp[q5];refine eU [7,8] ?_;have k1':take ns.length (List.map (λx=>List.map AC.d x) (encS ns))=List.map (λx=>List.map AC.d x) (encS ns):=aH (by simp);have k2':take ks.length (List.map ((λx=>List.map AC.d x)∘fo.enc) ks)=List.map ((λx=>List.map AC.d x)∘fo.enc) ks:=aH (by simp);simp[jT,k1',k2'];refine fO [0] c5 ?_;simp[jT,k1',k2'];have z1:D.erdE (take (ns.length+1) (encS ns++[[D.str s1]]))=encS ns++[[D.str s1]]:=by
     rw[aH (by simp)];simpa only[Tx,Tz]using Dm (ns++[s1])
    have z2:D.erdE (take (ks.length+1) (ks.map fo.enc++[k1.enc]))=ks.map fo.enc++[k1.enc]:=by
     rw[aH (by simp)];simpa using zFZ (ks++[k1])
    exact eF [0] [1] (by simp[oU,jT,k1',k2',z1,z2])
end
def tQ(s:di):s.data.toList.length=s.size:=by rw[df];try rfl
def wQ{s:di}{j:Nat}(h:j<s.data.toList.length):s.data[j]?=some s.data.toList[j]:=by
 simp at h⊢
def wrap_u64{n:Int}(h1:0<=n)(h2:n<=18446744073709551615):IntKind.u64.wrap n=n:=KD (by simpa[IntKind.min,IntKind.bits,IntKind.signed]using h1) (by simpa[IntKind.max,IntKind.bits,IntKind.signed]using h2)
def wrap_u8{n:Int}(h1:0<=n)(h2:n<=255):IntKind.u8.wrap n=n:=KD (by simpa[IntKind.min,IntKind.bits,IntKind.signed]using h1) (by simpa[IntKind.max,IntKind.bits,IntKind.signed]using h2)
def zDL(j:Nat):10^(j+1)=10*10^j:=by rw[Nat.pow_succ];omega
def UK(s:di):fu Pg 193 [.one (.str s)] (.tup [.one (.int .i64 (wF s).1),.one (.bool (wF s).2)]):=by
 refine zyH (by simp) λo c hN hp=>?_;have hs:s.size<=zao:=by have:=o.1;simpa only[DV.ok,D.ok]using this
 unfold zao at hs;have hlen:=tQ s;unfold SY;by_cases h0:s.size=0
 ·have e:wF s=(0,false):=by unfold wF Ag;rw[aB (by left;omega)]
  have h0':(s.size:Int)=0:=by omega
  rw[e];simp[h0,h0']
 by_cases h19:19<s.size
 ·have e:wF s=(0,false):=by unfold wF Ag;rw[aB (by right;left;omega)]
  have h0':¬(s.size:Int)=0:=by omega
  have h19':(19:Int)<s.size:=by omega
  rw[e];simp[h0,h0',h19']
 have h0':¬(s.size:Int)=0:=by omega
 have h19':¬(19:Int)<s.size:=by omega
 have hj0:0<s.data.toList.length:=by omega
 have hb0:=wQ hj0;have hd0:s.data.toList.head?=some s.data.toList[0]:=by
  rw[head?_eq_getElem?,aD hj0]
 generalize hB:s.data.toList[0]=b0 at hb0 hd0;by_cases hz:b0=48/\1<s.size
 ·have e:wF s=(0,false):=by unfold wF Ag;rw[aB (by right;right;rw[hd0,hz.1];exact⟨rfl,by omega⟩)]
  have h1:(1:Int)<s.size:=by omega
  rw[e];simp[h0,h0',h19',hb0,hz.1,h1]
 have hz':¬((b0.toNat:Int)=48/\(1:Int)<s.size):=by
  rintro⟨x,y⟩
  exact hz ⟨by apply dS.mp;simpa using (by omega:b0.toNat=48),by omega⟩
 have e:wF s=match tK s.data.toList 0 with
  |none=>(0,false)
  |some n=>if 9223372036854775807<n then(0,false)else((n:Int),true):=by
  unfold wF Ag;have hn:¬(s.data.toList.length=0\/19<s.data.toList.length\/(s.data.toList.head?=some 48/\1<s.data.toList.length)):=by
   rintro(x|x|⟨x,y⟩)
   ·omega
   ·omega
   ·rw[hd0]at x;exact hz ⟨by simpa using x,by omega⟩
  rw[aA hn];try(cases tK s.data.toList 0<;>rfl)
 rw[e];have hgo:∀K:Prop,K=K:=λ_=>rfl;by_cases q1:(b0.toNat:Int)=48<;>by_cases q2:(1:Int)<s.size
 ·exact absurd ⟨q1,q2⟩ hz'
 all_goals
  simp[h0,h0',h19',hb0,q1,q2];refine eP gD hp (λx:Nat × Nat=>x.1<=s.size/\x.2<10^x.1/\tK (s.data.toList.drop x.1) x.2=tK s.data.toList 0) (λx=>[(0,.c (.d (.str s))),(4,.c (.d (.int .u64 x.2))),(5,.c (.d (.int .i64 x.1)))]) (λ_=>[]) (λx=>s.size-x.1) (0,0) [] ⟨by simp,by simp,by simp⟩ (by simp) λ⟨j,n⟩ ⟨i1,i2,i3⟩=>?_;unfold SX;simp only at i1 i2 i3;simp;apply fM<;>intro h
  ·have hj:j<s.size:=by simpa using h
   have hj':j<s.data.toList.length:=by omega
   rw[aG hj',tK]at i3;have hb:=wQ hj';generalize s.data.toList[j]=b at i3 hb;by_cases d1:(b.toNat:Int)<48
   ·have hd:¬jo b=true:=by unfold jo ou;simp;omega
    rw[aA hd]at i3;rw[<-i3];simp[hb,d1]
   ·by_cases d2:(57:Int)<b.toNat
    ·have hd:¬jo b=true:=by unfold jo ou;simp;omega
     rw[aA hd]at i3;rw[<-i3];simp[hb,d1,d2]
    ·have hd:jo b=true:=by unfold jo ou;simp;omega
     rw[aB hd]at i3;have hpw:10^(j+1)<=10^19:=Nat.pow_le_pow_right (by omega) (by omega);have hps:=zDL j;have w1:IntKind.u64.wrap (10*(n:Int))=((10*n:Nat):Int):=by rw[wrap_u64 (by omega) (by omega)];omega
     have w2:IntKind.u8.wrap ((b.toNat:Int)-48)=((b.toNat-48:Nat):Int):=by rw[wrap_u8 (by omega) (by omega)];omega
     have w3:IntKind.u64.wrap (((b.toNat-48:Nat):Int))=((b.toNat-48:Nat):Int):=by rw[wrap_u64 (by omega) (by omega)]
     have w4:IntKind.u64.wrap (((10*n:Nat):Int)+((b.toNat-48:Nat):Int))=((10*n+(b.toNat-48):Nat):Int):=by rw[wrap_u64 (by omega) (by omega)];omega
     simp[hb,d1,d2];refine dm (j+1,10*n+(b.toNat-48)) [] ⟨by simp only;omega,by simp only;omega,i3⟩ (by simp only;omega) ?_;simp only[w1,w2,w3,w4];simp;exact wI
  ·have hj:j=s.size:=by simp at h;omega
   subst hj;rw[bN (by omega),tK]at i3;rw[<-i3];simp only;have hpw:10^s.size<=10^19:=Nat.pow_le_pow_right (by omega) (by omega);by_cases hm:9223372036854775807<n
   ·have hm':(9223372036854775807:Int)<n:=by omega
    rw[aB hm];simp[hm,hm']
   ·have hm':¬(9223372036854775807:Int)<n:=by omega
    rw[aA hm];simp[hm,hm'];exact wI
end Go.Gr
namespace Go.Gr
open Go.Abs Go.Proofs
section
variable {L:List Tok}
def zDN(hL:iR L)(hl:L.length<=10000){d:Nat}{ki:PS->fZ × PS}{ex:PS->fo × PS}(hk:gF L ki)(Hk:ow L d ki)(he:gF L ex)(He:mh L 118 d ex):
  mh L 255 d (wJ L ki ex):=by
 intro p h hd;refine zAv mU λts hts ok hb c hN hp=>?_;obtain⟨t,rfl⟩:=mV hts;have a0:=Dn (L:=L) 2 p h;have hg:=y9 h;have hw:IntKind.i64.wrap ((p.at':Int)+1)=((p.at'+1:Nat):Int):=by rw[wI];omega
 have hpz:=UK (gU L p).text;unfold TW wJ Ex;simp only;by_cases c1:p.e=0/\(gU L p).kind=3
 ·rw[aB c1];obtain⟨x1,x2⟩:=c1;simp;refine fO [0] a0 ?_;simp[hg,x1,x2,hw];refine⟨by decide,?_⟩;refine fU hpz ?_;simp;exact eF [0] [1] (by simp[oU,encS,x1])
 rw[aA c1];by_cases c2:p.e=0/\(gU L p).kind=4
 ·rw[aB c2];obtain⟨x1,x2⟩:=c2;simp;refine fO [0] a0 ?_;simp[hg,x1,x2,hw];refine⟨by decide,?_⟩;exact eF [0] [1] (by simp[oU,encS,x1])
 rw[aA c2];have d1:=lT Bq p h hl;have d2:=lT Br p h hl;have d3:=lT Bt p h hl;have d4:=lT xc p h hl;have d5:=lT xA p h hl;have d6:=lT (bs [40]) p h hl;have d7:=lT (bs [123]) p h hl;have d8:=wO p h hl;have n1:p.e=0->¬(gU L p).kind=3:=λx y=>c1 ⟨x,y⟩;have n2:p.e=0->¬(gU L p).kind=4:=λx y=>c2 ⟨x,y⟩;simp;refine fO [0] a0 ?_;by_cases x:p.e=0;simp[hg,x,n1 x,n2 x];rotate_left;simp[hg,x]
 all_goals
  refine⟨by decide,?_⟩;refine fP [0] d1 (by simp[x]) ?_;by_cases q1:(gG L Bq p).1=true
  ·rw[aB q1];simp[q1];exact eF [0] [1] (by simp[oU,encS])
  rw[aA q1,kg q1];rw[aN]at q1;simp[q1];refine fO [0] d2 ?_;by_cases q2:(gG L Br p).1=true
  ·rw[aB q2];simp[q2];exact eF [0] [1] (by simp[oU,encS])
  rw[aA q2,kg q2];rw[aN]at q2;simp[q2];refine fO [0] d3 ?_;by_cases q3:(gG L Bt p).1=true
  ·rw[aB q3];simp[q3];exact eF [0] [1] (by simp[oU,encS])
  rw[aA q3,kg q3];rw[aN]at q3;simp[q3];refine fO [0] d4 ?_;by_cases q4:(gG L xc p).1=true
  ·rw[aB q4];have t1:=iF hL h (s:=xc);have t2:=t1.trans (iP hL t1.lt (s:=bs [40]));have b1:=nQ hL (bs [40]) _ t1.lt hl;have b2:=nQ hL (bs [41]) _ t2.lt hl;generalize (gG L xc p).2=p1 at*
   generalize iV L (bs [40]) p1=p2 at*
   generalize iV L (bs [41]) p2=p3 at*
   simp[q4];refine fO [0] b1 ?_;simp;refine fO [0] b2 ?_;simp;exact eF [0] [1] (by simp[oU,encS])
  rw[aA q4,kg q4];rw[aN]at q4;simp[q4];refine fO [0] d5 ?_;by_cases q5:(gG L xA p).1=true
  ·rw[aB q5];have t1:=iF hL h (s:=xA);have t2:=t1.trans (iP hL t1.lt (s:=bs [40]));have t3:=t2.trans (he _ t2.lt);have b1:=nQ hL (bs [40]) _ t1.lt hl;have b2:=He _ t2.lt (by rw[t2.deep,hd]);have b3:=nQ hL (bs [41]) _ t3.lt hl;generalize (gG L xA p).2=p1 at*
   generalize iV L (bs [40]) p1=p2 at*
   generalize (ex p2).1=A at*
   generalize (ex p2).2=p3 at*
   generalize iV L (bs [41]) p3=p4 at*
   simp[q5];refine fO [0] b1 ?_;simp;refine fO [0] b2 ?_;simp;refine fO [0] b3 ?_;simp;exact eF [0] [1] (by simp[oU,encS])
  rw[aA q5,kg q5];rw[aN]at q5;simp[q5];refine fO [0] d6 ?_;by_cases q6:(gG L (bs [40]) p).1=true
  ·rw[aB q6];have t1:=iF hL h (s:=bs [40]);have t2:=t1.trans (he _ t1.lt);have b1:=He _ t1.lt (by rw[t1.deep,hd]);have b2:=nQ hL (bs [41]) _ t2.lt hl;generalize (gG L (bs [40]) p).2=p1 at*
   generalize (ex p1).1=A at*
   generalize (ex p1).2=p2 at*
   generalize iV L (bs [41]) p2=p3 at*
   simp[q6];refine fO [0] b1 ?_;simp;refine fO [0] b2 ?_;simp;exact eH [0] [1]
  rw[aA q6,kg q6];rw[aN]at q6;simp[q6];refine fO [0] d7 ?_;by_cases q7:(gG L (bs [123]) p).1=true
  ·rw[aB q7];have t1:=iF hL h (s:=bs [123]);have b1:=zAz hL hl he He 2 p _ t1.lt (by rw[t1.deep,hd]);generalize (gG L (bs [123]) p).2=p1 at*
   generalize (ui L ex p p1).1=A at*
   generalize (ui L ex p p1).2=p2 at*
   simp[q7];refine fO [0] b1 ?_;simp;exact eH [0] [1]
  rw[aA q7,kg q7];rw[aN]at q7;have t1:=lS hL h;have b1:=lT (bs [91]) _ t1.lt hl;generalize (iN L p).1=s1 at*
  generalize (iN L p).2=p1 at*
  simp[q7];refine fO [0] d8 ?_;simp;refine fO [0] b1 ?_;by_cases q8:(gG L (bs [91]) p1).1=true
  ·rw[aB q8];have t2:=t1.trans (iF hL t1.lt (s:=bs [91]));have b2:=zBR hL hl hk Hk _ t2.lt (by rw[t2.deep,hd]);generalize (gG L (bs [91]) p1).2=p2 at*
   generalize (vQ L ki (L.length+1) [] p2).1=T at*
   generalize (vQ L ki (L.length+1) [] p2).2=p3 at*
   simp[q8];refine fO [0] b2 ?_;simp;exact eF [0] [1] (by simp[oU,encS])
  rw[aA q8,kg q8];rw[aN]at q8;simp[q8];exact eF [0] [1] (by simp[oU,encS])
def UL(hL:iR L)(hl:L.length<=10000):∀(n:Nat) (d:Nat),d<=100->101<=d+n->mh L 118 d (tN L (uP L) n).1/\mh L 219 d (tN L (uP L) n).2
|0,d,h1,h2=>by omega
| n+1,d,h1,h2=>by
 have hk:gF L (uP L):=Lf hL 102;have ht:=FE hL hk n;have htn:=FE hL hk (n+1);rw[tN]at htn⊢;by_cases hd:d=100
 ·subst hd;have hr:=FC hL hk ht.2;refine⟨λp h hdp=>?_,λp h hdp=>?_⟩
  ·exact UJ hL hl (Lg hL hk ht.1 hr.2.2.2.2.2) p h (by omega) (λq=>absurd q (by omega))
  ·exact UI hL hl hk ht.1 ht.2 p h (by omega) (λq=>absurd q (by omega)) (λq=>absurd q (by omega))
 ·have ih:=UL hL hl n (d+1) (by omega) (by omega);have Hk:ow L (d+1) (uP L):=λr hr hd=>Lm hL hl 102 r hr (by omega) (by omega);have Ha:=zDN hL hl hk Hk ht.1 ih.1;have Hp:=zDy hL hl (I8 hL hk ht.1) Ha ht.1 ih.1;have H6:=zBx ih.2;have hr:=FC hL hk ht.2;have H5:=FI hL hl (k:=5) (by decide) (by decide) ht.2 H6;have H4:=FI hL hl (k:=4) (by decide) (by decide) hr.1 H5;have H3:=FI hL hl (k:=3) (by decide) (by decide) hr.2.1 H4;have H2:=zBy (zEv hL hl hk Hk hr.2.2.1 H3);have H1:=FI hL hl (k:=1) (by decide) (by decide) hr.2.2.2.1 H2;have H0:=FI hL hl (k:=0) (by decide) (by decide) hr.2.2.2.2.1 H1;refine⟨λp h hdp=>?_,λp h hdp=>?_⟩
  ·subst hdp;exact UJ hL hl (Lg hL hk ht.1 hr.2.2.2.2.2) p h (by omega) (λ_ q hq hdq=>zCR hL hl hk Hk ht.1 ih.1 H0 q hq hdq)
  ·subst hdp;exact UI hL hl hk ht.1 ht.2 p h (by omega) (λ_=>ih.2) (λ_=>Hp)
end
end Go.Gr
