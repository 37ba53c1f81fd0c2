/- Texts of ours, joined and written short by a program of ours. -/
import Derived.Test.YtnefbdgcccgodaaGreatJ06
set_option linter.unusedVariables false
set_option linter.unusedSimpArgs false
namespace Go.Gr
open Go.Abs Go.Proofs
def bA(l:List UInt8):ByteArray:=⟨l.toArray⟩
def letV(c:Int):Bool:=decide (97<=c/\c<=122\/65<=c/\c<=90\/c=95)
def digV(c:Int):Bool:=decide (48<=c/\c<=57)
def letU(b:UInt8):Bool:=letV b.toNat
def digU(b:UInt8):Bool:=digV b.toNat
def blkL:Bool->List UInt8->Nat
 |_,[]=>0
 |true,c::l=>blkL (decide (c≠10)) l+1
 |false,c::l=>if c=35 then blkL true l+1 else if c=32\/c=9\/c=10\/c=13 then blkL false l+1 else 0
def runL(num:Bool):List UInt8->Nat
 |[]=>0
 |b::l=>if(digU b||(!num&&letU b))=true then runL num l+1 else 0
def quoL:List UInt8->Option (List UInt8 × Nat)
 |[]=>none
 |c::l=>if c=34 then some ([],1)else if c<32 then none else if c≠92 then(quoL l).map fun x=>(c::x.1,x.2+1)else
  match l with
  |[]=>none
  |d::l=>if d=92\/d=34 then(quoL l).map fun x=>(d::x.1,x.2+2)else if d=110 then(quoL l).map fun x=>(10::x.1,x.2+2)else if d=116 then(quoL l).map fun x=>(9::x.1,x.2+2)else none
def twoL:List (List UInt8):=[[45,62],[61,62],[60,58],[60,60],[60,61],[62,62],[61,61],[43,43]]
def oneL:List UInt8:=[40,41,123,125,91,93,44,58,59,61,43,45,42,47,37,38,94,60,124,46]
def zeX(l:List UInt8):Nat:=if(twoL.any fun t=>decide (l.take 2=t))=true then 2 else match l with
 |[]=>0
 |c::_=>if c∈oneL then 1 else 0
def numL:List UInt8->Nat->Option Nat
 |[],n=>some n
 |c::l,n=>if digU c=true then numL l (10*n+(c.toNat-48))else none
def ze9(l:List UInt8):Int × Bool:=
 if l.length=0\/19<l.length\/(l.head?=some 48/\1<l.length)then(0,false)else match numL l 0 with
 |none=>(0,false)
 |some n=>if 9223372036854775807<n then(0,false)else(n,true)
def zcA(s:ByteArray):Int × Bool:=ze9 s.data.toList
end Go.Gr
namespace Go.Gr
open Go.Abs Go.Proofs
def zj2:List ByteArray:=[bs [97,110,100],bs [97,110,121],bs [97,115],bs [98,111,111,108],bs [101,108,115,101],bs [101,120,112,111,114,116],bs [102,97,108,115,101],bs [102,110],bs [102,117,110,99,116,105,111,110],bs [105,102],bs [105,109,112,111,114,116],bs [105,110],bs [105,110,116],bs [105,115],bs [108,101,116],bs [110,111,116],bs [110,117,108,108],bs [111,114],bs [112,114,105,110,116],bs [114,101,97,100],bs [114,101,99,111,114,100],bs [115,116,114],bs [116,104,101,110],bs [116,114,117,101],bs [119,105,116,104]]
def zkC(s:ByteArray):Bool:=zj2.any fun w=>decide (w=s)
def za1(s:ByteArray):Bool:=match s.data.toList with
 |[]=>false
 |c::l=>decide (s.size<=32)&&(!zkC s&&(!digU c&&(c::l).all fun b=>letU b||digU b))
structure TokR where
 kind:Int
 text:List UInt8
 len:Nat
 e:Int
def badR(e:Int):TokR:=⟨0,[],0,e⟩
def tokL:List UInt8->TokR
 |[]=>badR 5
 | c::r=>
  if letU c=true then
   (if 32<runL false (c::r)then badR 2 else⟨if zkC (bA ((c::r).take (runL false (c::r))))=true then 2 else 1,(c::r).take (runL false (c::r)),runL false (c::r),0⟩)
  else if digU c=true then
   (if(ze9 ((c::r).take (runL true (c::r)))).2=true then⟨3,(c::r).take (runL true (c::r)),runL true (c::r),0⟩else badR 3)
  else if c=34 then(match quoL r with
   |none=>badR 4
   |some (t,n)=>if 256<t.length then badR 2 else⟨4,t,n+1,0⟩)
  else if zeX (c::r)=0 then badR 5 else⟨5,(c::r).take (zeX (c::r)),zeX (c::r),0⟩
def zbk:List UInt8->Int->Int->Int × Int
 |[],a,b=>(a,b)
 |c::l,a,b=>if c=10 then zbk l (a+1) 1 else zbk l a (b+1)
structure Dia where
 module:Int
 line:Int
 col:Int
 e:Int
def Dia.enc(d:Dia):List D:=[.int .i64 d.module,.int .i64 d.line,.int .i64 d.col,.int .i64 d.e]
def noD:Dia:=⟨0,0,0,0⟩
def lexL:Nat->List UInt8->Int->Int->List Tok->List Tok × Dia
 |0,_,_,_,ts=>(ts,noD)
 | n+1,l,a,b,ts=>
  let q:=zbk (l.take (blkL false l)) a b
  let l':=l.drop (blkL false l)
  if l'=[]then(ts++[⟨0,bs [],q.1,q.2⟩],noD)
  else
   let t:=tokL l'
   let e:=if t.e=0/\ts.length=8192 then 19 else t.e
   if e≠0 then([],⟨0,q.1,q.2,e⟩)else lexL n (l'.drop t.len) q.1 (q.2+t.len) (ts++[⟨t.kind,bA t.text,q.1,q.2⟩])
def lexP(s:ByteArray):List Tok × Dia:=if 65536<s.size then([],⟨0,1,1,2⟩)else lexL (s.size+1) s.data.toList 1 1 []
end Go.Gr
namespace Go.Gr
open Go.Abs Go.Proofs
structure PS where
  at':Nat
  deep:Nat
  e:Int
  line:Int
  col:Int
section
variable (L:List Tok)
def curT(p:PS):Tok:=L.getD p.at' zdZ
def zc9(e:Int)(p:PS):PS:=if p.e=0 then {p with e:=e,line:=(curT L p).line,col:=(curT L p).col}else p
def zkF(s:ByteArray)(p:PS):Bool:=decide (p.e=0)&&((decide ((curT L p).kind=2)||decide ((curT L p).kind=5))&&decide ((curT L p).text=s))
def zad(s:ByteArray)(p:PS):Bool × PS:=if zkF L s p=true then(true,{p with at':=p.at'+1})else(false,p)
def zay(s:ByteArray)(p:PS):PS:=if(zad L s p).1=true then(zad L s p).2 else zc9 L 7 p
def zav(p:PS):ByteArray × PS:=if p.e=0/\(curT L p).kind=1 then((curT L p).text,{p with at':=p.at'+1})else(bs [],zc9 L 7 p)
def zeD(p:PS):PS:=if 100<=p.deep then zc9 L 6 p else p
def zau(p:PS):Bool × PS:=if(zeD L p).e≠0 then(false,zeD L p)else(true,{zeD L p with deep:=p.deep+1})
end
section
variable (L:List Tok)
def zdA:List ByteArray:=[bs [97,110,121],bs [110,117,108,108],bs [98,111,111,108],bs [105,110,116],bs [115,116,114]]
def zcS:Nat->List ByteArray->PS->Option (Nat × PS)
  |_,[],_=>none
  |i,s::l,p=>if(zad L s p).1=true then some (i,(zad L s p).2)else zcS (i+1) l p
def zdB (ki:PS->Typ × PS):Nat->List ByteArray->List Typ->PS->(List ByteArray × List Typ) × PS
  |0,ns,ks,p=>((ns,ks),p)
  | n+1,ns,ks,p=>
    let a:=zav L p
    let k:=ki (zay L (bs [58]) a.2)
    let m:=zad L (bs [44]) k.2
    if m.1=true then zdB ki n (ns++[a.1]) (ks++[k.1]) m.2 else((ns++[a.1],ks++[k.1]),m.2)
def zna (ki:PS->Typ × PS) (p:PS):Typ × PS:=
    if(zad L (bs [40]) p).1=true then((ki (zad L (bs [40]) p).2).1,zay L (bs [41]) (ki (zad L (bs [40]) p).2).2)
    else if(zad L (bs [123]) p).1=true then
      (if(zad L (bs [125]) (zad L (bs [123]) p).2).1=true then(.mk 5 (bs []) [] [],(zad L (bs [125]) (zad L (bs [123]) p).2).2)
      else(.mk 5 (bs []) (zdB L ki (L.length+1) [] [] (zad L (bs [123]) p).2).1.1 (zdB L ki (L.length+1) [] [] (zad L (bs [123]) p).2).1.2,zay L (bs [125]) (zdB L ki (L.length+1) [] [] (zad L (bs [123]) p).2).2))
    else(.mk 8 (zav L p).1 [] [],(zav L p).2)
def zbM(ki:PS->Typ × PS)(p:PS):Typ × PS:=match zcS L 0 zdA p with
  |some (i,q)=>(.mk i (bs []) [] [],q)
  |none=>zna L ki p
def altN (ki:PS->Typ × PS):Nat->List Typ->PS->List Typ × PS
  |0,l,p=>(l,p)
  | n +1,l,p=>if(zad L (bs [124]) p).1=true then
      let t:=zbM L ki (zad L (bs [124]) p).2
      altN ki n (l++[t.1]) t.2
    else(l,p)
def zur:List Typ->Typ
  |[t]=>t
  |l=>.mk 7 (bs []) [] l
theorem zx8{l:List Typ}(h:l.length≠1):zur l=.mk 7 (bs []) [] l:=by
  match l,h with
  |[],_=>rfl
  |_::_::_,_=>rfl
def altP(ki:PS->Typ × PS)(p:PS):Typ × PS:=
  let a:=zbM L ki p
  let r:=altN L ki (L.length+1) [a.1] a.2
  (zur r.1,r.2)
def znb(ki:PS->Typ × PS)(p:PS):Typ × PS:=
  let a:=altP L ki p
  let m:=zad L (bs [45,62]) a.2
  if m.1=true then(.mk 6 (bs []) [] [a.1,(ki m.2).1],(ki m.2).2)else(a.1,m.2)
def zcn{α:Type}(x:α × PS):α × PS:=(x.1,{x.2 with deep:=x.2.deep-1})
def zda:Nat->PS->Typ × PS
  |0=>fun p=>(noT,p)
  |d+1=>fun p=>if(zau L p).1=true then zcn (znb L (zda d) (zau L p).2)else(noT,(zau L p).2)
def zbl(ki:PS->Typ × PS)(p:PS):List Typ × PS:=if(zad L (bs [58]) p).1=true then([(ki (zad L (bs [58]) p).2).1],(ki (zad L (bs [58]) p).2).2)else([],p)
end
section
variable (L:List Tok)
def mkN(p:PS)(k:Int)(t:ByteArray)(n:Int)(ts:List Typ)(ns:List ByteArray)(ks:List Nod):Nod:=.mk k t n (curT L p).line (curT L p).col ts ns ks
abbrev wLet:=bs [108,101,116]
abbrev wIf:=bs [105,102]
abbrev ziL:=bs [116,104,101,110]
abbrev ziM:=bs [101,108,115,101]
abbrev wFn:=bs [102,110]
def zbN(ki:PS->Typ × PS)(p:PS):(ByteArray × List Typ) × PS:=
  let s:=zav L (zay L (bs [40]) p)
  let a:=zbl L ki s.2
  let b:=zbl L ki (zay L (bs [41]) a.2)
  ((s.1,(if a.1.length=0 then [noT]else a.1)++b.1),b.2)
def ze8 (ki:PS->Typ × PS) (ex rk:PS->Nod × PS) (p:PS):Nod × PS:=
  if(zad L wLet p).1=true then
    let s:=zav L (zad L wLet p).2
    let t:=zbl L ki s.2
    let v:=ex (zay L (bs [61]) t.2)
    let b:=ex (zay L (bs [59]) v.2)
    (mkN L p 5 s.1 0 t.1 [] [v.1,b.1],b.2)
  else if(zad L wIf p).1=true then
    let c:=ex (zad L wIf p).2
    let a:=ex (zay L ziL c.2)
    let b:=ex (zay L ziM a.2)
    (mkN L p 11 (bs []) 0 [] [] [c.1,a.1,b.1],b.2)
  else if(zad L wFn p).1=true then
    let h:=zbN L ki (zad L wFn p).2
    let b:=ex (zay L (bs [61,62]) h.2)
    (mkN L p 6 h.1.1 0 h.1.2 [] [b.1],b.2)
  else rk p
def zdC:List ByteArray->PS->Option (ByteArray × PS)
  |[],_=>none
  |s::l,p=>if(zad L s p).1=true then some (s,(zad L s p).2)else zdC l p
def opsP (rk:PS->Nod × PS) (signs:List ByteArray):Nat->Nod->PS->Nod × PS
  |0,a,p=>(a,p)
  | n+1,a,p=>match zdC L signs p with
    |none=>(a,p)
    |some (s,q)=>opsP rk signs n (mkN L p 14 s 0 [] [] [a,(rk q).1]) (rk q).2
def zbm:Nat->List ByteArray
  |0=>[bs [111,114]]
  |1=>[bs [97,110,100]]
  |3=>[bs [43,43]]
  |4=>[bs [43],bs [45],bs [94]]
  |5=>[bs [42],bs [47],bs [37],bs [38],bs [60,60],bs [62,62]]
  |_=>[]
def zdD:List ByteArray:=[bs [110,117,108,108],bs [98,111,111,108],bs [105,110,116],bs [115,116,114],bs [114,101,99,111,114,100],bs [102,117,110,99,116,105,111,110]]
def cmpP (ki:PS->Typ × PS) (rk:PS->Nod × PS) (p:PS):Nod × PS:=
  let a:=rk p
  match zdC L [bs [60],bs [60,61],bs [61,61]] a.2 with
  |some (s,q)=>(mkN L a.2 14 s 0 [] [] [a.1,(rk q).1],(rk q).2)
  | none=>
    if(zad L (bs [97,115]) a.2).1=true then
      let t:=ki (zad L (bs [97,115]) a.2).2
      (mkN L a.2 13 (bs []) 0 [t.1] [] [a.1],t.2)
    else if(zad L (bs [105,115]) a.2).1=true then
      match zcS L 0 zdD (zad L (bs [105,115]) a.2).2 with
      |some (i,q)=>(mkN L a.2 12 (bs []) i [] [] [a.1],q)
      |none=>(mkN L a.2 12 (bs []) 0 [] [] [a.1],zc9 L 7 (zad L (bs [105,115]) a.2).2)
    else a
def ziN(un:PS->Nod × PS)(p:PS):Nod × PS:=opsP L un (zbm 5) (L.length+1) (un p).1 (un p).2
def ziO(un:PS->Nod × PS)(p:PS):Nod × PS:=opsP L (ziN L un) (zbm 4) (L.length+1) (ziN L un p).1 (ziN L un p).2
def znc(un:PS->Nod × PS)(p:PS):Nod × PS:=opsP L (ziO L un) (zbm 3) (L.length+1) (ziO L un p).1 (ziO L un p).2
def ziP(ki:PS->Typ × PS)(un:PS->Nod × PS)(p:PS):Nod × PS:=cmpP L ki (znc L un) p
def ziQ(ki:PS->Typ × PS)(un:PS->Nod × PS)(p:PS):Nod × PS:=opsP L (ziP L ki un) (zbm 1) (L.length+1) (ziP L ki un p).1 (ziP L ki un p).2
def znd(ki:PS->Typ × PS)(un:PS->Nod × PS)(p:PS):Nod × PS:=opsP L (ziQ L ki un) (zbm 0) (L.length+1) (ziQ L ki un p).1 (ziQ L ki un p).2
def zco (ki:PS->Typ × PS):Nat->List Typ->PS->List Typ × PS
  |0,l,p=>(l,p)
  | n+1,l,p=>
    let t:=ki p
    let m:=zad L (bs [44]) t.2
    if m.1=true then zco ki n (l++[t.1]) m.2 else(l++[t.1],zay L (bs [93]) m.2)
def zcp (ex:PS->Nod × PS):Nat->List ByteArray->List Nod->PS->(List ByteArray × List Nod) × PS
  |0,ns,ks,p=>((ns,ks),p)
  | n+1,ns,ks,p=>
    let s:=zav L p
    let k:=ex (zay L (bs [58]) s.2)
    let m:=zad L (bs [44]) k.2
    if m.1=true then zcp ex n (ns++[s.1]) (ks++[k.1]) m.2 else((ns++[s.1],ks++[k.1]),m.2)
abbrev ziR:=bs [119,105,116,104]
def zbJ (ex:PS->Nod × PS) (q p:PS):Nod × PS:=
  if(zad L (bs [125]) p).1=true then(mkN L q 8 (bs []) 0 [] [] [],(zad L (bs [125]) p).2)
  else if p.e≠0\/(curT L p).kind≠1\/(L.getD (p.at'+1) zdZ).kind≠5\/(L.getD (p.at'+1) zdZ).text≠bs [58]then
    let a:=ex p
    let s:=zav L (zay L ziR a.2)
    let b:=ex (zay L (bs [58]) s.2)
    (mkN L q 10 s.1 0 [] [] [a.1,b.1],zay L (bs [125]) b.2)
  else
    let r:=zcp L ex (L.length+1) [] [] p
    (mkN L q 8 (bs []) 0 [] r.1.1 r.1.2,zay L (bs [125]) r.2)
end
section
variable (L:List Tok)
abbrev ziS:=bs [116,114,117,101]
abbrev zgA:=bs [102,97,108,115,101]
abbrev ziT:=bs [110,117,108,108]
abbrev zeE:=bs [114,101,97,100]
abbrev zcW:=bs [112,114,105,110,116]
def numV(s:ByteArray):Int:=(zcA s).1
def zdE (ki:PS->Typ × PS) (ex:PS->Nod × PS) (p:PS):Nod × PS:=
  if p.e=0/\(curT L p).kind=3 then(mkN L p 0 (bs []) (numV (curT L p).text) [] [] [],{p with at':=p.at'+1})
  else if p.e=0/\(curT L p).kind=4 then(mkN L p 1 (curT L p).text 0 [] [] [],{p with at':=p.at'+1})
  else if(zad L ziS p).1=true then(mkN L p 2 (bs []) 1 [] [] [],(zad L ziS p).2)
  else if(zad L zgA p).1=true then(mkN L p 2 (bs []) 0 [] [] [],(zad L zgA p).2)
  else if(zad L ziT p).1=true then(mkN L p 3 (bs []) 0 [] [] [],(zad L ziT p).2)
  else if(zad L zeE p).1=true then(mkN L p 18 (bs []) 0 [] [] [],zay L (bs [41]) (zay L (bs [40]) (zad L zeE p).2))
  else if(zad L zcW p).1=true then
    let k:=ex (zay L (bs [40]) (zad L zcW p).2)
    (mkN L p 17 (bs []) 0 [] [] [k.1],zay L (bs [41]) k.2)
  else if(zad L (bs [40]) p).1=true then((ex (zad L (bs [40]) p).2).1,zay L (bs [41]) (ex (zad L (bs [40]) p).2).2)
  else if(zad L (bs [123]) p).1=true then zbJ L ex p (zad L (bs [123]) p).2
  else
    let s:=zav L p
    if(zad L (bs [91]) s.2).1=true then
      let t:=zco L ki (L.length+1) [] (zad L (bs [91]) s.2).2
      (mkN L p 19 s.1 0 t.1 [] [],t.2)
    else(mkN L p 4 s.1 0 [] [] [],s.2)
def zb2 (ex:PS->Nod × PS):Nat->Nod->PS->Nod × PS
  |0,a,p=>(a,p)
  | n +1,a,p=>
    if(zad L (bs [40]) p).1=true then
      let b:=ex (zad L (bs [40]) p).2
      zb2 ex n (mkN L p 7 (bs []) 0 [] [] [a,b.1]) (zay L (bs [41]) b.2)
    else if(zad L (bs [46]) p).1=true then
      let s:=zav L (zad L (bs [46]) p).2
      zb2 ex n (mkN L p 9 s.1 0 [] [] [a]) s.2
    else(a,p)
def ziU(ki:PS->Typ × PS)(ex:PS->Nod × PS)(p:PS):Nod × PS:=
  let a:=zdE L ki ex p
  zb2 L ex (L.length+1) a.1 a.2
abbrev wNot:=bs [110,111,116]
def zdX (ki:PS->Typ × PS) (ex un:PS->Nod × PS) (p:PS):Nod × PS:=
  if(zad L (bs [45]) p).1=true then
    let k:=un (zad L (bs [45]) p).2
    (mkN L p 16 (bs []) 0 [] [] [k.1],k.2)
  else if(zad L wNot p).1=true then
    let k:=un (zad L wNot p).2
    (mkN L p 15 (bs []) 0 [] [] [k.1],k.2)
  else ziU L ki ex p
def euP (ki:PS->Typ × PS):Nat->(PS->Nod × PS) × (PS->Nod × PS)
  |0=>(fun p=>(noN,p),fun p=>(noN,p))
  | d+1=>
    (fun p=>if(zau L p).1=true then zcn (ze8 L ki (euP ki d).1 (znd L ki (euP ki d).2) (zau L p).2)else(noN,(zau L p).2),
     fun p=>if(zau L p).1=true then zcn (zdX L ki (euP ki d).1 (euP ki d).2 (zau L p).2)else(noN,(zau L p).2))
def kiP:PS->Typ × PS:=zda L 102
def exP:PS->Nod × PS:=(euP L (kiP L) 102).1
def zbR:Nat->List ByteArray->PS->List ByteArray × PS
  |0,l,p=>(l,p)
  | n+1,l,p=>
    let s:=zav L p
    let m:=zad L (bs [44]) s.2
    if m.1=true then zbR n (l++[s.1]) m.2 else(l++[s.1],m.2)
def zeF:Nat->List (ByteArray × Typ)->PS->List (ByteArray × Typ) × PS
  |0,l,p=>(l,p)
  | n+1,l,p=>
    let s:=zav L p
    let t:=if(zad L (bs [60,58]) s.2).1=true then kiP L (zad L (bs [60,58]) s.2).2 else(noT,s.2)
    let m:=zad L (bs [44]) t.2
    if m.1=true then zeF n (l++[(s.1,t.1)]) m.2 else(l++[(s.1,t.1)],zay L (bs [93]) m.2)
def zeG(p:PS):List (ByteArray × Typ) × PS:=if(zad L (bs [91]) p).1=true then zeF L (L.length+1) [] (zad L (bs [91]) p).2 else([],p)
structure Imp where
  from_:ByteArray
  names:List ByteArray
  line:Int
  col:Int
structure Dec where
  name:ByteArray
  exp:Bool
  vars:List (ByteArray × Typ)
  param:ByteArray
  types:List Typ
  body:Nod
  line:Int
  col:Int
structure Mdl where
  imps:List Imp
  decs:List Dec
abbrev zb4:=bs [105,109,112,111,114,116]
abbrev zdF:=bs [101,120,112,111,114,116]
def zdG:Nat->List Imp->PS->List Imp × PS
  |0,l,p=>(l,p)
  | n +1,l,p=>if p.e=0/\(zad L zb4 p).1=true then
      let s:=zav L (zad L zb4 p).2
      let ns:=zbR L (L.length+1) [] (zay L (bs [58]) s.2)
      zdG n (l++[⟨s.1,ns.1,(curT L p).line,(curT L p).col⟩]) (zay L (bs [59]) ns.2)
    else(l,p)
def decP(p:PS):Dec × PS:=
  let x:=zad L zdF p
  let s:=zav L (zay L wFn x.2)
  let v:=zeG L s.2
  let h:=zbN L (kiP L) v.2
  let b:=exP L (zay L (bs [61]) h.2)
  (⟨s.1,x.1,v.1,h.1.1,if h.1.2.length=1 then h.1.2++[noT]else h.1.2,b.1,(curT L x.2).line,(curT L x.2).col⟩,zay L (bs [59]) b.2)
def zbO:Nat->List Dec->PS->List Dec × PS
  |0,l,p=>(l,p)
  |n+1,l,p=>if p.e=0/\(curT L p).kind≠0 then zbO n (l++[(decP L p).1]) (decP L p).2 else(l,p)
def zel(p:PS):Mdl × PS:=
  let i:=zdG L (L.length+1) [] p
  let d:=zbO L (L.length+1) [] i.2
  (⟨i.1,d.1⟩,d.2)
end
structure OkL (L:List Tok):Prop where
  pos:0<L.length
  mid:∀i,i<L.length->(L.getD i zdZ).kind≠0->i+1<L.length
structure Tm (L:List Tok) (p q:PS):Prop where
  deep:q.deep=p.deep
  le:p.at'<=q.at'
  lt:q.at'<L.length
  bad:p.e≠0->q.e≠0
section
variable {L:List Tok}
theorem Tm.refl{p:PS}(h:p.at'<L.length):Tm L p p:=⟨rfl,Nat.le_refl _,h,id⟩
theorem Tm.trans{p q r:PS}(h:Tm L p q)(k:Tm L q r):Tm L p r:=⟨k.deep.trans h.deep,Nat.le_trans h.le k.le,k.lt,fun x=>k.bad (h.bad x)⟩
theorem zf1{e:Int}{p:PS}(h:p.at'<L.length):Tm L p (zc9 L e p):=by
  unfold zc9
  split
  · rename_i q
    exact⟨rfl,Nat.le_refl _,h,fun x=>absurd q x⟩
  · exact Tm.refl h
theorem zj8{e:Int}{p:PS}(h:e≠0):(zc9 L e p).e≠0:=by
  unfold zc9
  split
  · exact h
  · rename_i q;exact q
theorem zag(hL:OkL L){s:ByteArray}{p:PS}(h:p.at'<L.length):Tm L p (zad L s p).2:=by
  unfold zad
  split
  · rename_i q
    unfold zkF curT at q
    simp only[Bool.and_eq_true,Bool.or_eq_true,decide_eq_true_eq]at q
    refine⟨rfl,by simp,hL.mid _ h (by omega),fun x=>absurd q.1 x⟩
  · exact Tm.refl h
theorem take_at{s:ByteArray}{p:PS}(h:(zad L s p).1=true):(zad L s p).2.at'=p.at'+1/\p.e=0:=by
  unfold zad at h⊢
  split
  · rename_i q
    unfold zkF at q
    simp only[Bool.and_eq_true,decide_eq_true_eq]at q
    exact⟨rfl,q.1⟩
  · rename_i q
    rw[if_neg q]at h;cases h
theorem zaF{s:ByteArray}{p:PS}(h:¬(zad L s p).1=true):(zad L s p).2=p:=by
  unfold zad at h⊢
  split
  · rename_i q
    rw[if_pos q]at h;exact absurd rfl h
  · rfl
theorem zal(hL:OkL L){s:ByteArray}{p:PS}(h:p.at'<L.length):Tm L p (zay L s p):=by
  unfold zay
  split
  · exact zag hL h
  · exact zf1 h
theorem zzm{s:ByteArray}{p:PS}:(zay L s p).e≠0\/(zay L s p).at'=p.at'+1:=by
  unfold zay
  split
  · rename_i q;exact .inr (take_at q).1
  · exact .inl (zj8 (by decide))
theorem zaI(hL:OkL L){p:PS}(h:p.at'<L.length):Tm L p (zav L p).2:=by
  unfold zav
  split
  · rename_i q
    exact⟨rfl,by simp,hL.mid _ h (by unfold curT at q;omega),fun x=>absurd q.1 x⟩
  · exact zf1 h
theorem zkG{p:PS}(h:p.at'<L.length):Tm L p (zeD L p):=by
  unfold zeD
  split
  · exact zf1 h
  · exact Tm.refl h
end
end Go.Gr
namespace Go.Gr
open Go.Abs Go.Proofs
section
variable {L:List Tok}
def Tame{α:Type}(L:List Tok)(f:PS->α × PS):Prop:=∀p,p.at'<L.length->Tm L p (f p).2
theorem zhC(hL:OkL L):∀(l:List ByteArray) (i:Nat) {p q:PS} {k:Nat},p.at'<L.length->zcS L i l p=some (k,q)->Tm L p q/\p.at'<q.at'/\p.e=0/\k<i+l.length
 |[],_,_,_,_,_,h=>by rw[zcS]at h;cases h
 | s::l,i,p,q,k,hp,h=>by
  rw[zcS]at h
  split at h
  ·rename_i c
   simp only[Option.some.injEq,Prod.mk.injEq]at h
   obtain⟨rfl,rfl⟩:=h
   have:=take_at c
   exact⟨zag hL hp,by omega,this.2,by simp⟩
  ·have:=zhC hL l (i+1) hp h
   simp only[List.length_cons]
   exact⟨this.1,this.2.1,this.2.2.1,by omega⟩
theorem zeR(hL:OkL L):∀(l:List ByteArray) {p q:PS} {k:ByteArray},p.at'<L.length->zdC L l p=some (k,q)->Tm L p q/\p.at'<q.at'/\p.e=0
 |[],_,_,_,_,h=>by rw[zdC]at h;cases h
 | s::l,p,q,k,hp,h=>by
  rw[zdC]at h
  split at h
  ·rename_i c
   simp only[Option.some.injEq,Prod.mk.injEq]at h
   obtain⟨rfl,rfl⟩:=h
   have:=take_at c
   exact⟨zag hL hp,by omega,this.2⟩
  ·exact zeR hL l hp h
theorem zoG(hL:OkL L){ki:PS->Typ × PS}(hk:Tame L ki):∀(n:Nat) (ns:List ByteArray) (ks:List Typ),Tame L (zdB L ki n ns ks)
 |0,ns,ks,p,hp=>Tm.refl hp
 |n+1,ns,ks,p,hp=>by
  have h1:=zaI hL hp
  have h2:=h1.trans (zal hL h1.lt (s:=bs [58]))
  have h3:=h2.trans (hk _ h2.lt)
  have h4:=h3.trans (zag hL h3.lt (s:=bs [44]))
  rw[zdB]
  split
  ·exact h4.trans (zoG hL hk n _ _ _ h4.lt)
  ·exact h4
theorem zxs(hL:OkL L){ki:PS->Typ × PS}(hk:Tame L ki):Tame L (zna L ki):=fun p hp=>by
 unfold zna
 by_cases c1:(zad L (bs [40]) p).1=true
 ·rw[if_pos c1]
  have h1:=zag hL hp (s:=bs [40])
  have h2:=h1.trans (hk _ h1.lt)
  exact h2.trans (zal hL h2.lt)
 rw[if_neg c1]
 by_cases c2:(zad L (bs [123]) p).1=true
 ·rw[if_pos c2]
  have h1:=zag hL hp (s:=bs [123])
  by_cases c3:(zad L (bs [125]) (zad L (bs [123]) p).2).1=true
  ·rw[if_pos c3]
   exact h1.trans (zag hL h1.lt)
  ·rw[if_neg c3]
   have h2:=h1.trans (zoG hL hk (L.length+1) [] [] _ h1.lt)
   exact h2.trans (zal hL h2.lt)
 rw[if_neg c2]
 exact zaI hL hp
theorem zhD(hL:OkL L){ki:PS->Typ × PS}(hk:Tame L ki):Tame L (zbM L ki):=fun p hp=>by
 unfold zbM
 cases e:zcS L 0 zdA p with
 |some x=>exact(zhC hL _ _ hp e).1
 |none=>exact zxs hL hk p hp
theorem zsG(hL:OkL L){ki:PS->Typ × PS}(hk:Tame L ki):∀(n:Nat) (l:List Typ),Tame L (altN L ki n l)
 |0,l,p,hp=>Tm.refl hp
 | n+1,l,p,hp=>by
  rw[altN]
  split
  ·have h1:=zag hL hp (s:=bs [124])
   have h2:=h1.trans (zhD hL hk _ h1.lt)
   exact h2.trans (zsG hL hk n _ _ h2.lt)
  ·exact Tm.refl hp
theorem zvr(hL:OkL L){ki:PS->Typ × PS}(hk:Tame L ki):Tame L (altP L ki):=fun p hp=>by
 have h1:=zhD hL hk p hp
 unfold altP
 exact h1.trans (zsG hL hk (L.length+1) _ _ h1.lt)
theorem zir{p:PS}(h:¬(zau L p).1=true):(zau L p).2=zeD L p:=by
 unfold zau at h⊢
 split
 ·rfl
 ·rename_i q;rw[if_neg q]at h;exact absurd rfl h
theorem zb3{p:PS}(h:(zau L p).1=true):(zau L p).2={p with deep:=p.deep+1}/\p.deep<100/\p.e=0:=by
 unfold zau at h⊢
 split
 ·rename_i q;rw[if_pos q]at h;cases h
 ·rename_i q
  have hd:p.deep<100:=by
   rcases Nat.lt_or_ge p.deep 100 with r|r
   ·exact r
   ·exfalso
    apply q
    unfold zeD
    rw[if_pos r]
    exact zj8 (by decide)
  have e:zeD L p=p:=by unfold zeD;rw[if_neg (by omega)]
  rw[e]at q⊢
  exact⟨rfl,hd,by simpa using q⟩
theorem zlE{α:Type}{p:PS}{x:α × PS}(h:(zau L p).1=true)(hp:p.at'<L.length)(k:Tm L (zau L p).2 x.2):Tm L p (zcn x).2:=by
 obtain⟨e,_,h0⟩:=zb3 h
 rw[e]at k
 have hd:=k.deep
 simp only at hd
 exact⟨by simp only[zcn];omega,k.le,k.lt,fun x=>absurd h0 x⟩
theorem zxt(hL:OkL L){ki:PS->Typ × PS}(hk:Tame L ki):Tame L (znb L ki):=fun p hp=>by
 have h1:=zvr hL hk p hp
 have h2:=h1.trans (zag hL h1.lt (s:=bs [45,62]))
 unfold znb
 by_cases c2:(zad L (bs [45,62]) (altP L ki p).2).1=true
 ·show Tm L p (if(zad L (bs [45,62]) (altP L ki p).2).1=true then _ else _:Typ × PS).2
  rw[if_pos c2]
  exact h2.trans (hk _ h2.lt)
 ·show Tm L p (if(zad L (bs [45,62]) (altP L ki p).2).1=true then _ else _:Typ × PS).2
  rw[if_neg c2]
  exact h2
theorem znB(hL:OkL L)(d:Nat):Tame L (zda L d):=by
 induction d with
 |zero=>exact fun p hp=>Tm.refl hp
 | succ d ih=>
  intro p hp
  rw[zda]
  show Tm L p (if(zau L p).1=true then _ else _:Typ × PS).2
  by_cases c:(zau L p).1=true
  ·rw[if_pos c]
   have hp':(zau L p).2.at'<L.length:=by rw[(zb3 c).1];exact hp
   exact zlE c hp (zxt hL ih _ hp')
  ·rw[if_neg c,zir c];exact zkG hp
theorem zc1(hL:OkL L){ki:PS->Typ × PS}(hk:Tame L ki):Tame L (zbl L ki):=fun p hp=>by
 unfold zbl
 split
 ·have h1:=zag hL hp (s:=bs [58])
  exact h1.trans (hk _ h1.lt)
 ·exact Tm.refl hp
theorem zeh(hL:OkL L){ki:PS->Typ × PS}(hk:Tame L ki):Tame L (zbN L ki):=fun p hp=>by
 unfold zbN
 have h1:=zal hL hp (s:=bs [40])
 have h2:=h1.trans (zaI hL h1.lt)
 have h3:=h2.trans (zc1 hL hk _ h2.lt)
 have h4:=h3.trans (zal hL h3.lt (s:=bs [41]))
 exact h4.trans (zc1 hL hk _ h4.lt)
theorem znC(hL:OkL L){ki:PS->Typ × PS}{ex rk:PS->Nod × PS}(hk:Tame L ki)(he:Tame L ex)(hr:Tame L rk):Tame L (ze8 L ki ex rk):=fun p hp=>by
 unfold ze8
 split
 ·have h1:=zag hL hp (s:=wLet)
  have h2:=h1.trans (zaI hL h1.lt)
  have h3:=h2.trans (zc1 hL hk _ h2.lt)
  have h4:=h3.trans (zal hL h3.lt (s:=bs [61]))
  have h5:=h4.trans (he _ h4.lt)
  have h6:=h5.trans (zal hL h5.lt (s:=bs [59]))
  exact h6.trans (he _ h6.lt)
 ·split
  ·have h1:=zag hL hp (s:=wIf)
   have h2:=h1.trans (he _ h1.lt)
   have h3:=h2.trans (zal hL h2.lt (s:=ziL))
   have h4:=h3.trans (he _ h3.lt)
   have h5:=h4.trans (zal hL h4.lt (s:=ziM))
   exact h5.trans (he _ h5.lt)
  ·split
   ·have h1:=zag hL hp (s:=wFn)
    have h2:=h1.trans (zeh hL hk _ h1.lt)
    have h3:=h2.trans (zal hL h2.lt (s:=bs [61,62]))
    exact h3.trans (he _ h3.lt)
   ·exact hr p hp
theorem zhE(hL:OkL L){rk:PS->Nod × PS}(hr:Tame L rk)(signs:List ByteArray):∀(n:Nat) (a:Nod),Tame L (opsP L rk signs n a)
 |0,a,p,hp=>Tm.refl hp
 | n+1,a,p,hp=>by
  rw[opsP]
  split
  ·exact Tm.refl hp
  ·rename_i s q h
   have h1:=(zeR hL _ hp h).1
   have h2:=h1.trans (hr _ h1.lt)
   exact h2.trans (zhE hL hr signs n _ _ h2.lt)
theorem zzR(hL:OkL L){ki:PS->Typ × PS}{rk:PS->Nod × PS}(hk:Tame L ki)(hr:Tame L rk):Tame L (cmpP L ki rk):=fun p hp=>by
 have h0:=hr p hp
 unfold cmpP
 simp only
 split
 ·rename_i s q h
  have h1:=h0.trans (zeR hL _ h0.lt h).1
  exact h1.trans (hr _ h1.lt)
 ·split
  ·have h1:=h0.trans (zag hL h0.lt (s:=bs [97,115]))
   exact h1.trans (hk _ h1.lt)
  ·split
   ·have h1:=h0.trans (zag hL h0.lt (s:=bs [105,115]))
    split
    ·rename_i i q h
     exact h1.trans (zhC hL _ _ h1.lt h).1
    ·exact h1.trans (zf1 h1.lt)
   ·exact h0
theorem zhF(hL:OkL L){ki:PS->Typ × PS}{un:PS->Nod × PS}(hk:Tame L ki)(hu:Tame L un):Tame L (ziN L un)/\Tame L (ziO L un)/\Tame L (znc L un)/\Tame L (ziP L ki un)/\Tame L (ziQ L ki un)/\Tame L (znd L ki un):=by
 have h5:Tame L (ziN L un):=fun p hp=>(hu p hp).trans (zhE hL hu _ _ _ _ (hu p hp).lt)
 have h4:Tame L (ziO L un):=fun p hp=>(h5 p hp).trans (zhE hL h5 _ _ _ _ (h5 p hp).lt)
 have h3:Tame L (znc L un):=fun p hp=>(h4 p hp).trans (zhE hL h4 _ _ _ _ (h4 p hp).lt)
 have h2:Tame L (ziP L ki un):=zzR hL hk h3
 have h1:Tame L (ziQ L ki un):=fun p hp=>(h2 p hp).trans (zhE hL h2 _ _ _ _ (h2 p hp).lt)
 have h0:Tame L (znd L ki un):=fun p hp=>(h1 p hp).trans (zhE hL h1 _ _ _ _ (h1 p hp).lt)
 exact⟨h5,h4,h3,h2,h1,h0⟩
theorem zlF(hL:OkL L){ki:PS->Typ × PS}(hk:Tame L ki):∀(n:Nat) (l:List Typ),Tame L (zco L ki n l)
 |0,l,p,hp=>Tm.refl hp
 |n+1,l,p,hp=>by
  have h1:=hk p hp
  have h2:=h1.trans (zag hL h1.lt (s:=bs [44]))
  rw[zco]
  split
  ·exact h2.trans (zlF hL hk n _ _ h2.lt)
  ·exact h2.trans (zal hL h2.lt)
theorem zhG(hL:OkL L){ex:PS->Nod × PS}(he:Tame L ex):∀(n:Nat) (ns:List ByteArray) (ks:List Nod),Tame L (zcp L ex n ns ks)
 |0,ns,ks,p,hp=>Tm.refl hp
 |n+1,ns,ks,p,hp=>by
  have h1:=zaI hL hp
  have h2:=h1.trans (zal hL h1.lt (s:=bs [58]))
  have h3:=h2.trans (he _ h2.lt)
  have h4:=h3.trans (zag hL h3.lt (s:=bs [44]))
  rw[zcp]
  split
  ·exact h4.trans (zhG hL he n _ _ _ h4.lt)
  ·exact h4
theorem zvs(hL:OkL L){ex:PS->Nod × PS}(he:Tame L ex)(q:PS):Tame L (zbJ L ex q):=fun p hp=>by
 unfold zbJ
 split
 ·exact zag hL hp
 ·split
  ·have h1:=he p hp
   have h2:=h1.trans (zal hL h1.lt (s:=ziR))
   have h3:=h2.trans (zaI hL h2.lt)
   have h4:=h3.trans (zal hL h3.lt (s:=bs [58]))
   have h5:=h4.trans (he _ h4.lt)
   exact h5.trans (zal hL h5.lt)
  ·have h1:=zhG hL he (L.length+1) [] [] p hp
   exact h1.trans (zal hL h1.lt)
theorem zvt(hL:OkL L){p:PS}(hp:p.at'<L.length)(h:p.e=0/\(curT L p).kind≠0):Tm L p {p with at':=p.at'+1}:=
 ⟨rfl,by simp,hL.mid _ hp h.2,fun x=>absurd h.1 x⟩
theorem zkr(hL:OkL L){ki:PS->Typ × PS}{ex:PS->Nod × PS}(hk:Tame L ki)(he:Tame L ex):Tame L (zdE L ki ex):=fun p hp=>by
 unfold zdE
 by_cases c1:p.e=0/\(curT L p).kind=3
 ·rw[if_pos c1];exact zvt hL hp ⟨c1.1,by omega⟩
 rw[if_neg c1]
 by_cases c2:p.e=0/\(curT L p).kind=4
 ·rw[if_pos c2];exact zvt hL hp ⟨c2.1,by omega⟩
 rw[if_neg c2]
 by_cases c3:(zad L ziS p).1=true
 ·rw[if_pos c3];exact zag hL hp
 rw[if_neg c3]
 by_cases c4:(zad L zgA p).1=true
 ·rw[if_pos c4];exact zag hL hp
 rw[if_neg c4]
 by_cases c5:(zad L ziT p).1=true
 ·rw[if_pos c5];exact zag hL hp
 rw[if_neg c5]
 by_cases c6:(zad L zeE p).1=true
 ·rw[if_pos c6]
  have h1:=zag hL hp (s:=zeE)
  have h2:=h1.trans (zal hL h1.lt (s:=bs [40]))
  exact h2.trans (zal hL h2.lt)
 rw[if_neg c6]
 by_cases c7:(zad L zcW p).1=true
 ·rw[if_pos c7]
  have h1:=zag hL hp (s:=zcW)
  have h2:=h1.trans (zal hL h1.lt (s:=bs [40]))
  have h3:=h2.trans (he _ h2.lt)
  exact h3.trans (zal hL h3.lt)
 rw[if_neg c7]
 by_cases c8:(zad L (bs [40]) p).1=true
 ·rw[if_pos c8]
  have h1:=zag hL hp (s:=bs [40])
  have h2:=h1.trans (he _ h1.lt)
  exact h2.trans (zal hL h2.lt)
 rw[if_neg c8]
 by_cases c9:(zad L (bs [123]) p).1=true
 ·rw[if_pos c9]
  have h1:=zag hL hp (s:=bs [123])
  exact h1.trans (zvs hL he p _ h1.lt)
 rw[if_neg c9]
 have h1:=zaI hL hp
 by_cases c10:(zad L (bs [91]) (zav L p).2).1=true
 ·have h2:=h1.trans (zag hL h1.lt (s:=bs [91]))
  have h3:=h2.trans (zlF hL hk (L.length+1) [] _ h2.lt)
  show Tm L p (if(zad L (bs [91]) (zav L p).2).1=true then _ else _:Nod × PS).2
  rw[if_pos c10]
  exact h3
 ·show Tm L p (if(zad L (bs [91]) (zav L p).2).1=true then _ else _:Nod × PS).2
  rw[if_neg c10]
  exact h1
theorem zlG(hL:OkL L){ex:PS->Nod × PS}(he:Tame L ex):∀(n:Nat) (a:Nod),Tame L (zb2 L ex n a)
 |0,a,p,hp=>Tm.refl hp
 | n+1,a,p,hp=>by
  rw[zb2]
  split
  ·have h1:=zag hL hp (s:=bs [40])
   have h2:=h1.trans (he _ h1.lt)
   have h3:=h2.trans (zal hL h2.lt (s:=bs [41]))
   exact h3.trans (zlG hL he n _ _ h3.lt)
  ·split
   ·have h1:=zag hL hp (s:=bs [46])
    have h2:=h1.trans (zaI hL h1.lt)
    exact h2.trans (zlG hL he n _ _ h2.lt)
   ·exact Tm.refl hp
theorem zsH(hL:OkL L){ki:PS->Typ × PS}{ex:PS->Nod × PS}(hk:Tame L ki)(he:Tame L ex):Tame L (ziU L ki ex):=fun p hp=>by
 have h1:=zkr hL hk he p hp
 unfold ziU
 exact h1.trans (zlG hL he _ _ _ h1.lt)
theorem zxu(hL:OkL L){ki:PS->Typ × PS}{ex un:PS->Nod × PS}(hk:Tame L ki)(he:Tame L ex)(hu:Tame L un):Tame L (zdX L ki ex un):=fun p hp=>by
 unfold zdX
 split
 ·have h1:=zag hL hp (s:=bs [45])
  exact h1.trans (hu _ h1.lt)
 ·split
  ·have h1:=zag hL hp (s:=wNot)
   exact h1.trans (hu _ h1.lt)
  ·exact zsH hL hk he p hp
theorem zmL(hL:OkL L){ki:PS->Typ × PS}(hk:Tame L ki)(d:Nat):Tame L (euP L ki d).1/\Tame L (euP L ki d).2:=by
 induction d with
 |zero=>exact⟨fun p hp=>Tm.refl hp,fun p hp=>Tm.refl hp⟩
 | succ d ih=>
  rw[euP]
  refine⟨fun p hp=>?_,fun p hp=>?_⟩
  ·show Tm L p (if(zau L p).1=true then _ else _:Nod × PS).2
   by_cases c:(zau L p).1=true
   ·rw[if_pos c]
    have hp':(zau L p).2.at'<L.length:=by rw[(zb3 c).1];exact hp
    exact zlE c hp (znC hL hk ih.1 (zhF hL hk ih.2).2.2.2.2.2 _ hp')
   ·rw[if_neg c,zir c];exact zkG hp
  ·show Tm L p (if(zau L p).1=true then _ else _:Nod × PS).2
   by_cases c:(zau L p).1=true
   ·rw[if_pos c]
    have hp':(zau L p).2.at'<L.length:=by rw[(zb3 c).1];exact hp
    exact zlE c hp (zxu hL hk ih.1 ih.2 _ hp')
   ·rw[if_neg c,zir c];exact zkG hp
end
end Go.Gr
namespace Go.Gr
open Go.Abs Go.Proofs
theorem zaR{ts:List (Nat × Nat)}{b:Blk}(h:ts.length=[b].length):∃t,ts=[t]:=by
 match ts,h with
 |[t],_=>exact⟨t,rfl⟩
abbrev psB(L:List Tok)(p:PS):Blk:=.box [.d (.sl false 4 (L.map Tok.enc)),.d (.int .i64 p.at'),.d (.int .i64 p.deep),.d (.int .i64 p.e),.d (.int .i64 p.line),.d (.int .i64 p.col)]
section
variable {L:List Tok}
theorem zcZ{p:PS}(h:p.at'<L.length):L[p.at']?=some (curT L p):=by
 unfold curT
 rw[List.getD_eq_getElem?_getD,List.getElem?_eq_getElem h];try rfl
theorem zgl(e:Int)(p:PS)(h:p.at'<L.length):MCall Pg 111 [.c (.ptr 0 0),.c (.d (.int .i64 e))] [psB L p] (.tup []) [psB L (zc9 L e p)]:=by
 refine ztx ⟨by simp,by simp,by simp,by simp,by simp,by simp,by simp⟩ fun ts hts ok hb c hN hp=>?_
 obtain⟨t,rfl⟩:=zaR hts
 have hg:=zcZ h
 unfold mc_gp_fail zc9
 simp
 refine gd.mk (fun h0=>?_) (fun h0=>?_)
 ·have h0:p.e=0:=by simpa using h0
  rw[if_pos h0]
  simp[hg]
  refine⟨by decide,?_⟩
  exact EndM.mk [0] [1] (by simp)
 ·have h0:¬p.e=0:=by simpa using h0
  rw[if_neg h0]
  exact EndM.mk [0] [1] (by simp)
theorem zxl(s:ByteArray)(p:PS)(h:p.at'<L.length):MCall Pg 139 [.c (.ptr 0 0),.c (.d (.str s))] [psB L p] (.c (.d (.bool (zkF L s p)))) [psB L p]:=by
 refine zty ⟨by simp,by simp,by simp,by simp,by simp,by simp,by simp⟩ fun ts hts ok hb c hN hp=>?_
 obtain⟨t,rfl⟩:=zaR hts
 have hg:=zcZ h
 unfold mc_gp_sees zkF
 generalize curT L p=T at*
 by_cases h0:p.e=0<;>by_cases h2:T.kind=2<;>by_cases h5:T.kind=5<;>simp[hg,h0,h2,h5]
 all_goals (refine⟨by decide,?_⟩)
 all_goals exact EndM.mk [0] [1] (by simp[h0,h2,h5])
theorem zaE(s:ByteArray)(p:PS)(h:p.at'<L.length)(hl:L.length<=10000):MCall Pg 104 [.c (.ptr 0 0),.c (.d (.str s))] [psB L p] (.c (.d (.bool (zad L s p).1))) [psB L (zad L s p).2]:=by
 refine ztz ⟨by simp,by simp,by simp,by simp,by simp,by simp,by simp⟩ fun ts hts ok hb c hN hp=>?_
 obtain⟨t,rfl⟩:=zaR hts
 have hs:=zxl s p h
 unfold mc_gp_take zad
 generalize zkF L s p=b at*
 simp
 refine zaa.mk [0] hs (by simp) ?_
 cases b with
 |true=>
  simp
  exact EndM.mk [0] [1] (by simp;exact wrap_i64 (by omega) (by omega))
 |false=>
  simp
  exact EndM.mk [0] [1] (by simp)
theorem zaK(hL:OkL L)(s:ByteArray)(p:PS)(h:p.at'<L.length)(hl:L.length<=10000):MCall Pg 106 [.c (.ptr 0 0),.c (.d (.str s))] [psB L p] (.tup []) [psB L (zay L s p)]:=by
 refine ztA ⟨by simp,by simp,by simp,by simp,by simp,by simp,by simp⟩ fun ts hts ok hb c hN hp=>?_
 obtain⟨t,rfl⟩:=zaR hts
 have hs:=zaE s p h hl
 unfold mc_gp_want zay
 by_cases q:(zad L s p).1=true
 ·rw[if_pos q]
  rw[q]at hs
  simp
  refine zaa.mk [0] hs (by simp) ?_
  simp
  exact EndM.mk [0] [1] (by simp)
 ·rw[if_neg q]
  rw[zaF q]at hs
  rw[Bool.not_eq_true]at q
  rw[q]at hs
  have hf:=zgl (L:=L) 7 p h
  simp
  refine zaa.mk [0] hs (by simp) ?_
  simp
  refine zaa.mk [0] hf (by simp) ?_
  simp
  exact EndM.mk [0] [1] (by simp)
theorem zbG(p:PS)(h:p.at'<L.length)(hl:L.length<=10000):MCall Pg 105 [.c (.ptr 0 0)] [psB L p] (.c (.d (.str (zav L p).1))) [psB L (zav L p).2]:=by
 refine ztB ⟨by simp,by simp,by simp,by simp,by simp,by simp,by simp⟩ fun ts hts ok hb c hN hp=>?_
 obtain⟨t,rfl⟩:=zaR hts
 have hg:=zcZ h
 have hf:=zgl (L:=L) 7 p h
 unfold mc_gp_name zav
 generalize curT L p=T at*
 by_cases h0:p.e=0<;>by_cases h1:T.kind=1<;>simp[hg,h0,h1]
 ·refine⟨by decide,?_⟩
  exact EndM.mk [0] [1] (by simp;exact wrap_i64 (by omega) (by omega))
 all_goals
  refine⟨by decide,?_⟩
  refine zaa.mk [0] hf (by simp) ?_
  simp
  exact EndM.mk [0] [1] (by simp[h0,h1])
theorem zjK(p:PS)(h:p.at'<L.length)(hd:p.deep<=1000):MCall Pg 142 [.c (.ptr 0 0)] [psB L p] (.c (.d (.bool (zau L p).1))) [psB L (zau L p).2]:=by
 refine zrJ ⟨by simp,by simp,by simp,by simp,by simp,by simp,by simp⟩ fun ts hts ok hb c hN hp=>?_
 obtain⟨t,rfl⟩:=zaR hts
 have hf:=zgl (L:=L) 6 p h
 have hfd:(zc9 L 6 p).deep=p.deep:=(zf1 h).deep
 have hff:(zc9 L 6 p).e≠0:=zj8 (by decide)
 unfold mc_gp_enter zau zeD
 by_cases h1:100<=p.deep
 ·have h1':(100:Int)<=p.deep:=by omega
  rw[if_pos h1,if_pos hff]
  simp[h1']
  refine zaa.mk [0] hf (by simp) ?_
  simp[hff]
  exact EndM.mk [0] [1] (by simp)
 ·have h1':¬(100:Int)<=p.deep:=by omega
  rw[if_neg h1]
  by_cases h0:p.e=0
  ·rw[if_neg (by simp[h0])]
   simp[h1',h0]
   exact EndM.mk [0] [1] (by simp;exact wrap_i64 (by omega) (by omega))
  ·rw[if_pos h0]
   simp[h1',h0]
   exact EndM.mk [0] [1] (by simp)
end
end Go.Gr
namespace Go.Gr
open Go.Abs Go.Proofs
@[simp] theorem zAi{α:Type}(f:Nat->Nat)(g:α->List D):AC.rens f∘((fun x=>List.map AC.d x)∘g)=(fun x=>List.map AC.d x)∘g:=by funext x;simp
@[simp] theorem encS_app(a b:List ByteArray):encS (a++b)=encS a++encS b:=by simp[encS]
@[simp] theorem zpM(s:ByteArray):encS [s]=[[.str s]]:=rfl
@[simp] theorem zAX:encS []=[]:=rfl
theorem zho:∀l:List ByteArray,D.erdE (encS l)=encS l
 |[]=>rfl
 |s::l=>by
  have ih:=zho l
  simp only[encS,List.map_cons,D.erdE,D.erdL,D.erd]at ih⊢
  rw[ih]
mutual
theorem Typ.erdL:∀t:Typ,D.erdL t.enc=t.enc
 |.mk k n s l=>by
  simp only[Typ.enc,D.erdL,D.erd,zho,Typ.erdE l]
theorem Typ.erdE:∀l:List Typ,D.erdE (Typ.encs l)=Typ.encs l
 |[]=>rfl
 |t::l=>by simp only[Typ.encs,D.erdE,Typ.erdL t,Typ.erdE l]
end
@[simp] theorem zpN(l:List Typ):D.erdE (l.map Typ.enc)=l.map Typ.enc:=by rw[<-Typ.encs_map];exact Typ.erdE l
theorem zpO:∀l:List D,(l.map AC.d).map AC.erd=(D.erdL l).map .d
 |[]=>rfl
 |d::l=>by simp only[List.map_cons,zpO l,D.erdL];rfl
attribute [simp] AV.erd AC.erd D.erd D.erdE D.erdL Typ.erdL zho Typ.erdE
abbrev box4:Blk:=.box [.d (.int .i64 0),.d (.str (bs [])),.d (.sl true 1 []),.d (.sl true 4 [])]
def KiOk(L:List Tok)(d:Nat)(ki:PS->Typ × PS):Prop:=∀p:PS,p.at'<L.length->p.deep=d->MCall Pg 140 [.c (.ptr 0 0)] [psB L p] (.ag ((ki p).1.enc.map .d)) [psB L (ki p).2]
section
variable {L:List Tok}
set_option maxRecDepth 20000 in
set_option maxHeartbeats 2000000 in
theorem zpP(hL:OkL L)(hl:L.length<=10000){d:Nat}{ki:PS->Typ × PS}(hk:Tame L ki)(Hk:KiOk L d ki)(p:PS)(h:p.at'<L.length)(hd:p.deep=d):
  MCall Pg 162 [.c (.ptr 0 0)] [psB L p] (.ag ((zbM L ki p).1.enc.map .d)) [psB L (zbM L ki p).2]:=by
 refine ztD ⟨by simp,by simp,by simp,by simp,by simp,by simp,by simp⟩ fun ts hts ok hb c hN hp=>?_
 obtain⟨t,rfl⟩:=zaR hts
 have hR:zbM L ki p=zbM L ki p:=rfl
 generalize hR':zbM L ki p=R at*
 unfold zmx
 simp
 refine W.loop zab hp (fun j:Nat=>j<=5/\zcS L j (zdA.drop j) p=zcS L 0 zdA p) (fun j=>[(4,.c (.d (.int .i64 j))),(3,.c (.d (.sl true 1 (encS zdA)))),(0,.c (.ptr 0 0)),(2,.c (.ptr 2 0))]) (fun j=>[psB L p,.pin t 0,box4]) (fun j=>5-j) 0 [0,1,2] ⟨by simp,rfl⟩ (by simp[encS,zdA]) fun j ⟨h1,h2⟩=>?_
 unfold lp_gp_prim_0
 have hbl:zdA.length=5:=rfl
 simp[hbl]
 refine gd.mk (fun h5=>?_) (fun h5=>?_)
 ·have hj:j<zdA.length:=by simp at h5;omega
  have hj':j<5:=by omega
  rw[List.drop_eq_getElem_cons hj,zcS]at h2
  have hg:zdA[j]?=some zdA[j]:=List.getElem?_eq_getElem hj
  have ht:=zaE zdA[j] p h hl
  generalize zdA[j]=s at*
  simp[hg]
  refine zaa.mk [0] ht (by simp) ?_
  by_cases q:(zad L s p).1=true
  ·rw[if_pos q]at h2
   have hr:R=(.mk j (bs []) [] [],(zad L s p).2):=by rw[<-hR'];unfold zbM;rw[<-h2]
   rw[hr]
   simp[q]
   exact EndM.mkE [0] [1] (by simp[Typ.enc,Typ.encs,encS])
  ·rw[if_neg q]at h2
   rw[zaF q]
   rw[Bool.not_eq_true]at q
   simp[q]
   refine Abs.Next.mk (j+1) [0,1,2] ⟨by omega,h2⟩ (by omega) ?_
   simp
   exact wrap_i64 (by omega) (by omega)
 ·have hj:j=5:=by simp at h5;omega
  subst hj
  have h2:zcS L 0 zdA p=none:=by rw[<-h2];try rfl
  have ht:=zaE (bs [40]) p h hl
  have hr:R=zna L ki p:=by rw[<-hR'];unfold zbM;rw[h2]
  rw[hr]
  unfold zna
  simp
  refine zaa.mk [0] ht (by simp) ?_
  by_cases q1:(zad L (bs [40]) p).1=true
  ·have t1:=zag hL h (s:=bs [40])
   have t2:=t1.trans (hk _ t1.lt)
   have h3:=Hk _ t1.lt (by rw[t1.deep,hd])
   have h4:=zaK hL (bs [41]) _ t2.lt hl
   rw[if_pos q1]
   simp[q1]
   refine zaa.mk [0] h3 (by simp) ?_
   simp
   refine zaa.mk [0] h4 (by simp) ?_
   simp
   exact EndM.mk [0] [1] (by simp)
  ·rw [if_neg q1,zaF q1]
   rw[Bool.not_eq_true]at q1
   have h3:=zaE (bs [123]) p h hl
   simp[q1]
   refine zaa.mk [0] h3 (by simp) ?_
   by_cases q2:(zad L (bs [123]) p).1=true
   ·rw [if_pos q2]
    have t1:=zag hL h (s:=bs [123])
    have h4:=zaE (bs [125]) _ t1.lt hl
    generalize (zad L (bs [123]) p).2=p1 at*
    simp[q2]
    refine owK.mk [.c 3 2,.c 3 3] ?_
    simp
    refine zaa.mk [0] h4 (by simp) ?_
    by_cases q3:(zad L (bs [125]) p1).1=true
    ·rw[if_pos q3]
     simp[q3]
     refine fzK.mk [4,5] ?_
     simp[zak]
     exact EndM.mkE [0] [1] (by simp[Typ.enc,Typ.encs,encS])
    ·rw[if_neg q3,zaF q3]
     rw[Bool.not_eq_true]at q3
     simp[q3]
     obtain⟨F0,hF0⟩:∃F0,zdB L ki (L.length+1) [] [] p1=F0:=⟨_,rfl⟩
     rw[hF0]
     have hd1:p1.deep=d:=by rw[t1.deep,hd]
     refine W.loop zab hp (fun x:Nat × List ByteArray × List Typ × PS=>zdB L ki x.1 x.2.1 x.2.2.1 x.2.2.2=F0/\Tm L p1 x.2.2.2/\L.length<x.1+x.2.2.2.at'/\x.2.1.length=x.2.2.1.length/\x.2.1.length<=x.2.2.2.at')
      (fun x=>[(0,.c (.ptr 0 0)),(2,.c (.ptr 2 0)),(8,.c (.ptr 3 0))])
      (fun x=>[psB L x.2.2.2,.pin t 0,box4,.box [.d (.int .i64 5),.d (.str (bs [])),.msl 1 4 0 x.2.1.length,.msl 4 5 0 x.2.2.1.length],.arr 1 ((encS x.2.1).map (·.map .d)),.arr 4 ((x.2.2.1.map Typ.enc).map (·.map .d))])
      (fun x=>x.1) (L.length+1,[],[],p1) [0,1,2,3,4,5] ⟨hF0,Tm.refl t1.lt,by simp only;omega,rfl,by simp⟩ (by simp[encS]) fun⟨n,ns,ks,q⟩ ⟨i1,i2,i3,i4,i5⟩=>?_
     unfold zjD
     simp only at i1 i2 i4 i5
     have i3:L.length<n+q.at':=i3
     have hlt:=i2.lt
     obtain⟨n,rfl⟩:∃m,n=m+1:=⟨n-1,by omega⟩
     rw[zdB]at i1
     have e1:=zaI hL hlt
     have e2:=e1.trans (zal hL e1.lt (s:=bs [58]))
     have e3:=e2.trans (hk _ e2.lt)
     have e4:=e3.trans (zag hL e3.lt (s:=bs [44]))
     have c1:=zbG q hlt hl
     have c2:=zaK hL (bs [58]) _ e1.lt hl
     have c3:=Hk _ e2.lt (by rw[e2.deep,i2.deep,hd1])
     have c4:=zaE (bs [44]) _ e3.lt hl
     generalize (zav L q).1=s1 at*
     generalize (zav L q).2=q1' at*
     generalize zay L (bs [58]) q1'=q2' at*
     generalize (ki q2').1=k1 at*
     generalize (ki q2').2=q3' at*
     simp
     refine zaa.mk [0] c1 (by simp) ?_
     simp
     refine zaa.mk [0] c2 (by simp) ?_
     simp
     refine zaa.mk [0] c3 (by simp) ?_
     simp
     refine⟨by omega,by omega,?_⟩
     refine zaa.mk [0] c4 (by simp) ?_
     by_cases q5:(zad L (bs [44]) q3').1=true
     ·rw[if_pos q5]at i1
      have ha:=(take_at q5).1
      have hb':=e3.le
      simp[q5]
      refine Abs.Next.mk (n,ns++[s1],ks++[k1],(zad L (bs [44]) q3').2) [0,1,2,3,7,8] ⟨i1,i2.trans e4,by simp only;omega,by simp[i4],by simp;omega⟩ (by simp) ?_
      simp
      exact⟨List.take_of_length_le (by simp),List.take_of_length_le (by simp)⟩
     ·rw[if_neg q5,zaF q5]at i1
      rw[<-i1]
      have c5:=zaK hL (bs [125]) _ e3.lt hl
      rw[zaF q5]
      rw[Bool.not_eq_true]at q5
      simp[q5]
      refine fzK.mk [7,8] ?_
      have k1':List.take ns.length (List.map (fun x=>List.map AC.d x) (encS ns))=List.map (fun x=>List.map AC.d x) (encS ns):=List.take_of_length_le (by simp)
      have k2':List.take ks.length (List.map ((fun x=>List.map AC.d x)∘Typ.enc) ks)=List.map ((fun x=>List.map AC.d x)∘Typ.enc) ks:=List.take_of_length_le (by simp)
      simp[zak,k1',k2']
      refine zaa.mk [0] c5 (by simp) ?_
      simp[zak,k1',k2']
      have z1:D.erdE (List.take (ns.length+1) (encS ns++[[D.str s1]]))=encS ns++[[D.str s1]]:=by
       rw[List.take_of_length_le (by simp)]
       simpa only[encS_app,zpM]using zho (ns++[s1])
      have z2:D.erdE (List.take (ks.length+1) (ks.map Typ.enc++[k1.enc]))=ks.map Typ.enc++[k1.enc]:=by
       rw[List.take_of_length_le (by simp)]
       simpa using zpN (ks++[k1])
      exact EndM.mkE [0] [1] (by simp[Typ.enc,Typ.encs_map,zak,k1',k2',z1,z2])
   ·rw[if_neg q2,zaF q2]
    rw[Bool.not_eq_true]at q2
    have h4:=zbG p h hl
    simp[q2]
    refine zaa.mk [0] h4 (by simp) ?_
    simp
    exact EndM.mkE [0] [1] (by simp[Typ.enc,Typ.encs,encS])
theorem zpQ{ki:PS->Typ × PS}:∀(n:Nat) (l:List Typ) (p:PS),1<=l.length->1<=(altN L ki n l p).1.length
 |0,l,p,h=>h
 |n+1,l,p,h=>by
  rw[altN]
  split
  ·exact zpQ n _ _ (by simp)
  ·exact h
set_option maxRecDepth 20000 in
set_option maxHeartbeats 2000000 in
theorem zyK(hL:OkL L)(hl:L.length<=10000){d:Nat}{ki:PS->Typ × PS}(hk:Tame L ki)(Hk:KiOk L d ki)(p:PS)(h:p.at'<L.length)(hd:p.deep=d):
  MCall Pg 158 [.c (.ptr 0 0)] [psB L p] (.ag ((altP L ki p).1.enc.map .d)) [psB L (altP L ki p).2]:=by
 refine zvf ⟨by simp,by simp,by simp,by simp,by simp,by simp,by simp⟩ fun ts hts ok hb c hN hp=>?_
 obtain⟨t,rfl⟩:=zaR hts
 have c1:=zpP hL hl hk Hk p h hd
 have t1:=zhD hL hk p h
 have hpos:=zpQ (L:=L) (ki:=ki) (L.length+1) [(zbM L ki p).1] (zbM L ki p).2 (by simp)
 unfold zos altP
 simp only
 obtain⟨F0,hF0⟩:∃F0,altN L ki (L.length+1) [(zbM L ki p).1] (zbM L ki p).2=F0:=⟨_,rfl⟩
 rw[hF0]at hpos⊢
 generalize (zbM L ki p).1=T1 at*
 generalize (zbM L ki p).2=p1 at*
 simp
 refine zaa.mk [0] c1 (by simp) ?_
 simp
 refine W.loop zab hp (fun x:Nat × List Typ × PS=>altN L ki x.1 x.2.1 x.2.2=F0/\Tm L p1 x.2.2/\L.length<x.1+x.2.2.at'/\x.2.1.length<=x.2.2.at'+1)
  (fun x=>[(0,.c (.ptr 0 0)),(2,.c (.ptr 2 0)),(3,.c (.msl 4 3 0 x.2.1.length))])
  (fun x=>[psB L x.2.2,.pin t 0,box4,.arr 4 ((x.2.1.map Typ.enc).map (·.map .d))])
  (fun x=>x.1) (L.length+1,[T1],p1) [0,1,2,3] ⟨hF0,Tm.refl t1.lt,by simp only;omega,by simp⟩ (by simp) fun⟨n,l,q⟩ ⟨i1,i2,i3,i4⟩=>?_
 unfold lp_gp_alt_0
 simp only at i1 i2 i4
 have i3:L.length<n+q.at':=i3
 have hlt:=i2.lt
 obtain⟨n,rfl⟩:∃m,n=m+1:=⟨n-1,by omega⟩
 rw[altN]at i1
 have e1:=zag hL hlt (s:=bs [124])
 have a1:=zaE (bs [124]) q hlt hl
 simp
 refine zaa.mk [0] a1 (by simp) ?_
 by_cases q1:(zad L (bs [124]) q).1=true
 ·rw[if_pos q1]at i1
  have i1:altN L ki n (l++[(zbM L ki (zad L (bs [124]) q).2).1]) (zbM L ki (zad L (bs [124]) q).2).2=F0:=i1
  have ha:=(take_at q1).1
  have e2:=e1.trans (zhD hL hk _ e1.lt)
  have hle:=(zhD hL hk _ e1.lt).le
  have a2:=zpP hL hl hk Hk _ e1.lt (by rw[e1.deep,i2.deep,t1.deep,hd])
  generalize (zad L (bs [124]) q).2=q2 at*
  generalize (zbM L ki q2).1=T2 at*
  generalize (zbM L ki q2).2=q3 at*
  simp[q1]
  refine zaa.mk [0] a2 (by simp) ?_
  simp
  refine⟨by omega,?_⟩
  refine Abs.Next.mk (n,l++[T2],q3) [0,1,2,5] ⟨i1,i2.trans e2,by simp only;omega,by simp;omega⟩ (by simp) ?_
  simp
  exact List.take_of_length_le (by simp)
 ·rw[if_neg q1]at i1
  rw[zaF q1]
  rw[Bool.not_eq_true]at q1
  rw[<-i1]at hpos⊢
  simp only at hpos⊢
  by_cases hl1:l.length=1
  ·obtain⟨T,rfl⟩:∃T,l=[T]:=by
    match l,hl1 with
    |[T],_=>exact⟨T,rfl⟩
   have ho:zur [T]=T:=rfl
   rw[ho]
   simp[q1]
   refine fzK.mk [3] ?_
   simp[zak]
   exact EndM.mk [0] [1] (by simp)
  ·have htk:List.take l.length (List.map ((fun x=>List.map AC.d x)∘Typ.enc) l)=List.map ((fun x=>List.map AC.d x)∘Typ.enc) l:=List.take_of_length_le (by simp)
   have hne:¬((l.length:Int)=1):=by omega
   rw[zx8 hl1]
   simp[q1]
   refine fzK.mk [3] ?_
   simp[zak,htk,hne,hl1]
   have z:D.erdE (List.take l.length (l.map Typ.enc))=l.map Typ.enc:=by
    rw[List.take_of_length_le (by simp)]
    exact zpN l
   exact EndM.mkE [0] [1] (by simp[Typ.enc,Typ.encs_map,encS,z])
set_option maxRecDepth 20000 in
set_option maxHeartbeats 1000000 in
theorem zlo(hL:OkL L)(hl:L.length<=10000):∀(n:Nat) (p:PS),p.at'<L.length->p.deep<=100->101<=p.deep+n->MCall Pg 140 [.c (.ptr 0 0)] [psB L p] (.ag ((zda L n p).1.enc.map .d)) [psB L (zda L n p).2]
 |0,p,h,h1,h2=>by omega
 | n+1,p,h,h1,h2=>by
  have ce:=zjK p h (by omega)
  refine ztC ⟨by simp,by simp,by simp,by simp,by simp,by simp,by simp⟩ fun ts hts ok hb c hN hp=>?_
  obtain⟨t,rfl⟩:=zaR hts
  have hR:zda L (n+1) p=if(zau L p).1=true then zcn (znb L (zda L n) (zau L p).2)else(noT,(zau L p).2):=by rw[zda]
  rw[hR]
  unfold mc_gp_Kind
  simp
  refine zaa.mk [0] ce (by simp) ?_
  by_cases q:(zau L p).1=true
  ·rw[if_pos q]
   obtain⟨e1,e2,e3⟩:=zb3 q
   have hk:=znB hL n
   have Hk:KiOk L (p.deep+1) (zda L n):=fun r hr hd=>zlo hL hl n r hr (by omega) (by omega)
   have hp1:(zau L p).2.at'<L.length:=by rw[e1];exact h
   have hd1:(zau L p).2.deep=p.deep+1:=by rw[e1]
   have a1:=zyK hL hl hk Hk _ hp1 hd1
   have t1:=zvr hL hk _ hp1
   have a2:=zaE (bs [45,62]) _ t1.lt hl
   have t2:=t1.trans (zag hL t1.lt (s:=bs [45,62]))
   unfold zcn znb
   simp only
   generalize (zau L p).2=p1 at*
   generalize (altP L (zda L n) p1).1=T1 at*
   generalize (altP L (zda L n) p1).2=p2 at*
   simp[q]
   refine zaa.mk [0] a1 (by simp) ?_
   simp
   refine zaa.mk [0] a2 (by simp) ?_
   by_cases q2:(zad L (bs [45,62]) p2).1=true
   ·rw[if_pos q2]
    have a3:=Hk _ t2.lt (by rw[t2.deep,hd1])
    have hd3:=(t2.trans (hk _ t2.lt)).deep
    simp only
    simp only[hd1]at hd3
    generalize (zad L (bs [45,62]) p2).2=p3 at*
    generalize (zda L n p3).1=T3 at*
    generalize (zda L n p3).2=p4 at*
    simp[q2]
    refine zaa.mk [0] a3 (by simp) ?_
    simp
    have hw:IntKind.i64.wrap ((p4.deep:Int)-1)=((p4.deep-1:Nat):Int):=by rw[wrap_i64 (by omega) (by omega)];omega
    exact EndM.mkE [0] [1] (by simp[Typ.enc,Typ.encs,encS,hw])
   ·rw[if_neg q2,zaF q2]
    have hd3:=t1.deep
    rw[hd1]at hd3
    rw[Bool.not_eq_true]at q2
    simp[q2]
    have hw:IntKind.i64.wrap ((p2.deep:Int)-1)=((p2.deep-1:Nat):Int):=by rw[wrap_i64 (by omega) (by omega)];omega
    exact EndM.mk [0] [1] (by simp[hw])
  ·rw[if_neg q]
   rw[Bool.not_eq_true]at q
   simp[q]
   exact EndM.mkE [0] [1] (by simp[noT,Typ.enc,Typ.encs,encS])
end
end Go.Gr
namespace Go.Gr
open Go.Abs Go.Proofs
mutual
theorem Nod.erdL:∀t:Nod,D.erdL t.enc=t.enc
 |.mk k t n a b ts ns ks=>by
  simp only[Nod.enc,D.erdL,D.erd,zho,zpN,Nod.erdE ks]
theorem Nod.erdE:∀l:List Nod,D.erdE (Nod.encs l)=Nod.encs l
 |[]=>rfl
 |t::l=>by simp only[Nod.encs,D.erdE,Nod.erdL t,Nod.erdE l]
end
attribute [simp] Nod.erdL Nod.erdE
@[simp] theorem zzv(l:List Nod):D.erdE (l.map Nod.enc)=l.map Nod.enc:=by rw[<-Nod.encs_map];exact Nod.erdE l
def NoOk(L:List Tok)(f:FuncId)(d:Nat)(ex:PS->Nod × PS):Prop:=∀p:PS,p.at'<L.length->p.deep=d->MCall Pg f [.c (.ptr 0 0)] [psB L p] (.ag ((ex p).1.enc.map .d)) [psB L (ex p).2]
section
variable {L:List Tok}
theorem zhf(k:Int)(p:PS)(h:p.at'<L.length):MCall Pg 159 [.c (.ptr 0 0),.c (.d (.int .i64 k))] [psB L p] (.ag [.d (.int .i64 k),.d (.str (bs [])),.d (.int .i64 0),.d (.int .i64 (curT L p).line),.d (.int .i64 (curT L p).col),.d (.sl true 4 []),.d (.sl true 1 []),.d (.sl true 8 [])]) [psB L p]:=by
 refine zxd ⟨by simp,by simp,by simp,by simp,by simp,by simp,by simp⟩ fun ts hts ok hb c hN hp=>?_
 obtain⟨t,rfl⟩:=zaR hts
 have hg:=zcZ h
 unfold mc_gp_at
 simp[hg]
 refine⟨by decide,?_⟩
 exact EndM.mk [0] [1] (by simp)
theorem zf5(hL:OkL L)(hl:L.length<=10000){d:Nat}{ki:PS->Typ × PS}(Hk:KiOk L d ki)(p:PS)(h:p.at'<L.length)(hd:p.deep=d):
  MCall Pg 141 [.c (.ptr 0 0)] [psB L p] (.c (.d (.sl true 4 ((zbl L ki p).1.map Typ.enc)))) [psB L (zbl L ki p).2]:=by
 refine ztE ⟨by simp,by simp,by simp,by simp,by simp,by simp,by simp⟩ fun ts hts ok hb c hN hp=>?_
 obtain⟨t,rfl⟩:=zaR hts
 have c1:=zaE (bs [58]) p h hl
 unfold mc_gp_note zbl
 simp
 refine zaa.mk [0] c1 (by simp) ?_
 by_cases q:(zad L (bs [58]) p).1=true
 ·have t1:=zag hL h (s:=bs [58])
  have c2:=Hk _ t1.lt (by rw[t1.deep,hd])
  rw[if_pos q]
  simp[q]
  refine zaa.mk [0] c2 (by simp) ?_
  simp
  exact EndM.mk [0] [1] (by simp)
 ·rw[if_neg q,zaF q]
  rw[Bool.not_eq_true]at q
  simp[q]
  exact EndM.mk [0] [1] (by simp)
theorem zfG(ki:PS->Typ × PS)(q:PS):(zbl L ki q).1=[]\/∃T,(zbl L ki q).1=[T]:=by
 unfold zbl;split
 ·exact .inr ⟨_,rfl⟩
 ·exact .inl rfl
set_option maxRecDepth 20000 in
theorem zwC(hL:OkL L)(hl:L.length<=10000){d:Nat}{ki:PS->Typ × PS}(hk:Tame L ki)(Hk:KiOk L d ki)(p:PS)(h:p.at'<L.length)(hd:p.deep=d):
  MCall Pg 109 [.c (.ptr 0 0)] [psB L p] (.tup [.c (.d (.str (zbN L ki p).1.1)),.c (.d (.sl false 4 ((zbN L ki p).1.2.map Typ.enc)))]) [psB L (zbN L ki p).2]:=by
 refine zes ⟨by simp,by simp,by simp,by simp,by simp,by simp,by simp⟩ fun ts hts ok hb c hN hp=>?_
 obtain⟨t,rfl⟩:=zaR hts
 have t1:=zal hL h (s:=bs [40])
 have t2:=t1.trans (zaI hL t1.lt)
 have t3:=t2.trans (zc1 hL hk _ t2.lt)
 have t4:=t3.trans (zal hL t3.lt (s:=bs [41]))
 have c1:=zaK hL (bs [40]) p h hl
 have c2:=zbG _ t1.lt hl
 have c3:=zf5 hL hl Hk _ t2.lt (by rw[t2.deep,hd])
 have c4:=zaK hL (bs [41]) _ t3.lt hl
 have c5:=zf5 hL hl Hk _ t4.lt (by rw[t4.deep,hd])
 have n1:=zfG (L:=L) ki (zav L (zay L (bs [40]) p)).2
 have n2:=zfG (L:=L) ki (zay L (bs [41]) (zbl L ki (zav L (zay L (bs [40]) p)).2).2)
 unfold mc_gp_head zbN
 simp only
 generalize zay L (bs [40]) p=p1 at*
 generalize (zav L p1).1=s1 at*
 generalize (zav L p1).2=p2 at*
 generalize (zbl L ki p2).1=A at*
 generalize (zbl L ki p2).2=p3 at*
 generalize zay L (bs [41]) p3=p4 at*
 generalize (zbl L ki p4).1=B at*
 generalize (zbl L ki p4).2=p5 at*
 simp
 refine zaa.mk [0] c1 (by simp) ?_
 simp
 refine zaa.mk [0] c2 (by simp) ?_
 simp
 refine zaa.mk [0] c3 (by simp) ?_
 simp
 refine zaa.mk [0] c4 (by simp) ?_
 simp
 refine zaa.mk [0] c5 (by simp) ?_
 have hn:noT.enc=[.int .i64 0,.str (bs []),.sl false 1 [],.sl false 4 []]:=rfl
 rcases n1 with rfl|⟨T,rfl⟩<;>rcases n2 with rfl|⟨U,rfl⟩<;>simp
 ·refine fzK.mk [] ?_
  simp
  exact EndM.mkE [0] [1] (by simp[hn,AV.erds])
 ·refine fzK.mk [2] ?_
  simp[zak]
  exact EndM.mkE [0] [1] (by simp[hn,AV.erds])
 ·refine fzK.mk [] ?_
  simp
  exact EndM.mkE [0] [1] (by simp[hn,AV.erds])
 ·refine fzK.mk [2] ?_
  simp[zak]
  exact EndM.mkE [0] [1] (by simp[hn,AV.erds])
def RkOk(L:List Tok)(d:Nat)(k:Int)(rk:PS->Nod × PS):Prop:=∀p:PS,p.at'<L.length->p.deep=d->MCall Pg 160 [.c (.ptr 0 0),.c (.d (.int .i64 k))] [psB L p] (.ag ((rk p).1.enc.map .d)) [psB L (rk p).2]
theorem zaQ(p:PS)(k:Int)(t:ByteArray)(n:Int)(ts:List Typ)(ns:List ByteArray)(ks:List Nod):(mkN L p k t n ts ns ks).enc=[.int .i64 k,.str t,.int .i64 n,.int .i64 (curT L p).line,.int .i64 (curT L p).col,.sl false 4 (ts.map Typ.enc),.sl false 1 (encS ns),.sl false 8 (ks.map Nod.enc)]:=by
 unfold mkN;rw[Nod.enc_eq];try rfl
set_option maxRecDepth 20000 in
set_option maxHeartbeats 2000000 in
theorem zwD(hL:OkL L)(hl:L.length<=10000){d:Nat}{ki:PS->Typ × PS}{ex rk:PS->Nod × PS}(hk:Tame L ki)(Hk:KiOk L d ki)(he:Tame L ex)(He:NoOk L 110 d ex)(Hr:RkOk L d 0 rk)(p:PS)(h:p.at'<L.length)(hd:p.deep=d):
  MCall Pg 143 [.c (.ptr 0 0)] [psB L p] (.ag ((ze8 L ki ex rk p).1.enc.map .d)) [psB L (ze8 L ki ex rk p).2]:=by
 refine ztG ⟨by simp,by simp,by simp,by simp,by simp,by simp,by simp⟩ fun ts hts ok hb c hN hp=>?_
 obtain⟨t,rfl⟩:=zaR hts
 have c0:=zhf (L:=L) 5 p h
 have c1:=zaE wLet p h hl
 unfold mc_gp_expr ze8
 simp
 refine zaa.mk [0] c0 (by simp) ?_
 simp
 refine zaa.mk [0] c1 (by simp) ?_
 by_cases q1:(zad L wLet p).1=true
 ·rw[if_pos q1]
  have t1:=zag hL h (s:=wLet)
  have t2:=t1.trans (zaI hL t1.lt)
  have t3:=t2.trans (zc1 hL hk _ t2.lt)
  have t4:=t3.trans (zal hL t3.lt (s:=bs [61]))
  have t5:=t4.trans (he _ t4.lt)
  have t6:=t5.trans (zal hL t5.lt (s:=bs [59]))
  have a1:=zbG _ t1.lt hl
  have a2:=zf5 hL hl Hk _ t2.lt (by rw[t2.deep,hd])
  have a3:=zaK hL (bs [61]) _ t3.lt hl
  have a4:=He _ t4.lt (by rw[t4.deep,hd])
  have a5:=zaK hL (bs [59]) _ t5.lt hl
  have a6:=He _ t6.lt (by rw[t6.deep,hd])
  generalize (zad L wLet p).2=p1 at*
  generalize (zav L p1).1=s1 at*
  generalize (zav L p1).2=p2 at*
  generalize (zbl L ki p2).1=A at*
  generalize (zbl L ki p2).2=p3 at*
  generalize zay L (bs [61]) p3=p4 at*
  generalize (ex p4).1=V at*
  generalize (ex p4).2=p5 at*
  generalize zay L (bs [59]) p5=p6 at*
  generalize (ex p6).1=B at*
  generalize (ex p6).2=p7 at*
  simp[q1]
  refine zaa.mk [0] a1 (by simp) ?_
  simp
  refine zaa.mk [0] a2 (by simp) ?_
  simp
  refine zaa.mk [0] a3 (by simp) ?_
  simp
  refine zaa.mk [0] a4 (by simp) ?_
  simp
  refine zaa.mk [0] a5 (by simp) ?_
  simp
  refine zaa.mk [0] a6 (by simp) ?_
  simp
  exact EndM.mkE [0] [1] (by simp[zaQ,encS])
 ·rw[if_neg q1,zaF q1]
  rw[Bool.not_eq_true]at q1
  have c2:=zaE wIf p h hl
  simp[q1]
  refine zaa.mk [0] c2 (by simp) ?_
  by_cases q2:(zad L wIf p).1=true
  ·rw[if_pos q2]
   have t1:=zag hL h (s:=wIf)
   have t2:=t1.trans (he _ t1.lt)
   have t3:=t2.trans (zal hL t2.lt (s:=ziL))
   have t4:=t3.trans (he _ t3.lt)
   have t5:=t4.trans (zal hL t4.lt (s:=ziM))
   have a1:=He _ t1.lt (by rw[t1.deep,hd])
   have a2:=zaK hL ziL _ t2.lt hl
   have a3:=He _ t3.lt (by rw[t3.deep,hd])
   have a4:=zaK hL ziM _ t4.lt hl
   have a5:=He _ t5.lt (by rw[t5.deep,hd])
   generalize (zad L wIf p).2=p1 at*
   generalize (ex p1).1=C at*
   generalize (ex p1).2=p2 at*
   generalize zay L ziL p2=p3 at*
   generalize (ex p3).1=A at*
   generalize (ex p3).2=p4 at*
   generalize zay L ziM p4=p5 at*
   generalize (ex p5).1=B at*
   generalize (ex p5).2=p6 at*
   simp[q2]
   refine zaa.mk [0] a1 (by simp) ?_
   simp
   refine zaa.mk [0] a2 (by simp) ?_
   simp
   refine zaa.mk [0] a3 (by simp) ?_
   simp
   refine zaa.mk [0] a4 (by simp) ?_
   simp
   refine zaa.mk [0] a5 (by simp) ?_
   simp
   exact EndM.mkE [0] [1] (by simp[zaQ,encS])
  ·rw[if_neg q2,zaF q2]
   rw[Bool.not_eq_true]at q2
   have c3:=zaE wFn p h hl
   simp[q2]
   refine zaa.mk [0] c3 (by simp) ?_
   by_cases q3:(zad L wFn p).1=true
   ·rw[if_pos q3]
    have t1:=zag hL h (s:=wFn)
    have t2:=t1.trans (zeh hL hk _ t1.lt)
    have t3:=t2.trans (zal hL t2.lt (s:=bs [61,62]))
    have a1:=zwC hL hl hk Hk _ t1.lt (by rw[t1.deep,hd])
    have a2:=zaK hL (bs [61,62]) _ t2.lt hl
    have a3:=He _ t3.lt (by rw[t3.deep,hd])
    generalize (zad L wFn p).2=p1 at*
    generalize (zbN L ki p1).1.1=s1 at*
    generalize (zbN L ki p1).1.2=A at*
    generalize (zbN L ki p1).2=p2 at*
    generalize zay L (bs [61,62]) p2=p3 at*
    generalize (ex p3).1=B at*
    generalize (ex p3).2=p4 at*
    simp[q3]
    refine zaa.mk [0] a1 (by simp) ?_
    simp
    refine zaa.mk [0] a2 (by simp) ?_
    simp
    refine zaa.mk [0] a3 (by simp) ?_
    simp
    exact EndM.mkE [0] [1] (by simp[zaQ,encS])
   ·rw[if_neg q3,zaF q3]
    rw[Bool.not_eq_true]at q3
    have a1:=Hr p h hd
    simp[q3]
    refine zaa.mk [0] a1 (by simp) ?_
    simp
    exact EndM.mk [0] [1] (by simp)
end
end Go.Gr
namespace Go.Gr
open Go.Abs Go.Proofs
theorem zp2:∀v:List D,(D.erdL v).length=v.length
 |[]=>rfl
 |d::v=>by simp only[D.erdL,List.length_cons,zp2 v]
@[simp] theorem zBn(v:List D):List.map (AC.erd∘AC.d) v=(D.erdL v).map .d:=by rw[<-List.map_map,zpO]
theorem zmg{v:List D}{a:Nod}(h:D.erdL v=a.enc):v.length=8:=by rw[<-zp2,h];simp
theorem zuY{v:List D}{a:Nod}(h:D.erdL v=a.enc):cut (v.map AC.d) 0 8=v.map .d:=by
 have:=zmg h
 unfold cut
 simp[this]
theorem zss{v:List D}{a:Nod}(h:D.erdL v=a.enc):cut v 0 8=v:=by
 have:=zmg h
 unfold cut
 simp[this]
abbrev rkT:List (List D):=[[.sl true 1 [[.str (bs [111,114])]]],[.sl true 1 [[.str (bs [97,110,100])]]],[.sl true 1 []],[.sl true 1 [[.str (bs [43,43])]]],[.sl true 1 [[.str (bs [43])],[.str (bs [45])],[.str (bs [94])]]],[.sl true 1 [[.str (bs [42])],[.str (bs [47])],[.str (bs [37])],[.str (bs [38])],[.str (bs [60,60])],[.str (bs [62,62])]]]]
theorem zyQ{k:Nat}(h:k<6):rkT[k]?=some [.sl true 1 (encS (zbm k))]:=by
 match k,h with
 |0,_=>rfl
 |1,_=>rfl
 |2,_=>rfl
 |3,_=>rfl
 |4,_=>rfl
 |5,_=>rfl
theorem zuZ{k:Nat}:(zbm k).length<=6:=by
 unfold zbm
 split<;>simp
section
variable {L:List Tok}
def opsI(L:List Tok)(rk:PS->Nod × PS)(signs:List ByteArray)(n i:Nat)(a:Nod)(p:PS):Nod × PS:=match zdC L (signs.drop i) p with
 |none=>(a,p)
 |some (s,q)=>opsP L rk signs n (mkN L p 14 s 0 [] [] [a,(rk q).1]) (rk q).2
theorem zyr(rk:PS->Nod × PS)(signs:List ByteArray)(n:Nat)(a:Nod)(p:PS):opsP L rk signs (n+1) a p=opsI L rk signs n 0 a p:=by
 rw[opsP];unfold opsI;rw[List.drop_zero];try rfl
abbrev box8:Blk:=.box [.d (.int .i64 0),.d (.str (bs [])),.d (.int .i64 0),.d (.int .i64 0),.d (.int .i64 0),.d (.sl true 4 []),.d (.sl true 1 []),.d (.sl true 8 [])]
set_option maxRecDepth 20000 in
set_option maxHeartbeats 2000000 in
theorem zgf(hL:OkL L)(hl:L.length<=10000){d k:Nat}(hk:k<6)(hk2:k≠2){rk:PS->Nod × PS}(hr:Tame L rk)(Hr:RkOk L d (k+1:Nat) rk):
  RkOk L d k (fun p=>opsP L rk (zbm k) (L.length+1) (rk p).1 (rk p).2):=by
 intro p h hd
 refine zin ⟨by simp,by simp,by simp,by simp,by simp,by simp,by simp⟩ fun ts hts ok hb c hN hp=>?_
 obtain⟨t,rfl⟩:=zaR hts
 have c1:=Hr p h hd
 have t1:=hr p h
 have h6:¬((k:Int)=6):=by omega
 have h2:¬((k:Int)=2):=by omega
 have hw:IntKind.i64.wrap ((k:Int)+1)=((k+1:Nat):Int):=by rw[wrap_i64 (by omega) (by omega)];omega
 have hT:=zyQ hk
 have hs6:=zuZ (k:=k)
 simp only
 obtain⟨F0,hF0⟩:∃F0,opsP L rk (zbm k) (L.length+1) (rk p).1 (rk p).2=F0:=⟨_,rfl⟩
 rw[hF0]
 rw[zyr]at hF0
 generalize (rk p).1=A at*
 generalize (rk p).2=p1 at*
 unfold zfK
 simp[h6,h2,hw]
 refine zaa.mk [0] c1 (by simp) ?_
 generalize zbm k=sg at*
 have hd1:p1.deep=d:=by rw[t1.deep,hd]
 simp
 generalize hTT:rkT=TT at*
 refine W.loop zab hp (fun x:Nat × Nat × Nod × List D × PS=>opsI L rk sg x.1 x.2.1 x.2.2.1 x.2.2.2.2=F0/\Tm L p1 x.2.2.2.2/\L.length<x.1+1+x.2.2.2.2.at'/\x.2.1<=sg.length/\D.erdL x.2.2.2.1=x.2.2.1.enc)
  (fun x=>[(0,.c (.ptr 0 0)),(1,.c (.d (.int .i64 k))),(4,.c (.ptr 2 0)),(5,.c (.d (.sl true 1 TT))),(6,.c (.ptr 3 0)),(7,.c (.d (.int .i64 x.2.1)))])
  (fun x=>[psB L x.2.2.2.2,.pin t 0,box8,.box (x.2.2.2.1.map .d)])
  (fun x=>x.1*7+(sg.length-x.2.1)) (L.length,0,A,A.enc,p1) [0,1,2,3] ⟨hF0,Tm.refl t1.lt,by simp only;omega,by simp,by simp⟩ (by simp[<-hTT]) fun⟨n,i,a,v,q⟩ ⟨i1,i2,i3,i4,i5⟩=>?_
 unfold lp_gp_rank_0
 simp only at i1 i2 i4 i5
 have i3:L.length<n+1+q.at':=i3
 have hlt:=i2.lt
 have hcut:=zuY i5
 have hcut':=zss i5
 have hvl:=zmg i5
 simp[hT]
 refine gd.mk (fun hj=>?_) (fun hj=>?_)
 ·have hj:i<sg.length:=by simpa using hj
  have hg:sg[i]?=some sg[i]:=List.getElem?_eq_getElem hj
  have a0:=zhf (L:=L) 14 q hlt
  have a1:=zaE sg[i] q hlt hl
  unfold opsI at i1
  rw[List.drop_eq_getElem_cons hj,zdC]at i1
  generalize sg[i]=s at*
  refine zaa.mk [0] a0 (by simp) ?_
  simp[hT,hg]
  refine zaa.mk [0] a1 (by simp) ?_
  by_cases q1:(zad L s q).1=true
  ·rw[if_pos q1]at i1
   simp only at i1
   have ha:=(take_at q1).1
   have e1:=zag hL hlt (s:=s)
   have a2:=Hr _ e1.lt (by rw[e1.deep,i2.deep,hd1])
   have e2:=e1.trans (hr _ e1.lt)
   have hle:=(hr _ e1.lt).le
   obtain⟨n,rfl⟩:∃m,n=m+1:=⟨n-1,by have:=e1.lt;omega⟩
   rw[zyr]at i1
   generalize (zad L s q).2=q2 at*
   generalize (rk q2).1=B at*
   generalize (rk q2).2=q3 at*
   simp[q1,hw]
   refine zaa.mk [0] a2 (by simp) ?_
   simp[hT,hg,hvl,hcut,hcut']
   refine Abs.Next.mk (n,0,mkN L q 14 s 0 [] [] [a,B],([.int .i64 14,.str s,.int .i64 0,.int .i64 (curT L q).line,.int .i64 (curT L q).col,.sl true 4 [],.sl true 1 [],.sl true 8 [v,B.enc]]:List D),q3) [0,1,2,3] ⟨i1,i2.trans e2,by simp only;omega,by simp,?_⟩ (by simp;omega) ?_
   ·simp[zaQ,i5,encS]
   ·simp
  ·rw[if_neg q1]at i1
   rw[zaF q1]
   rw[Bool.not_eq_true]at q1
   simp[q1]
   refine Abs.Next.mk (n,i+1,a,v,q) [0,1,2,3] ⟨i1,i2,by simp only;omega,by simp only;omega,i5⟩ (by simp only;omega) ?_
   simp
   exact wrap_i64 (by omega) (by omega)
 ·have hj:i=sg.length:=by simp at hj;omega
  subst hj
  unfold opsI at i1
  rw[List.drop_length,zdC]at i1
  have i1:(a,q)=F0:=i1
  rw[<-i1]
  simp[hvl,hcut]
  exact EndM.mkE [0] [1] (by simp[hcut,i5])
theorem zu0{d:Nat}{un:PS->Nod × PS}(Hu:NoOk L 163 d un):RkOk L d 6 un:=by
 intro p h hd
 refine zin ⟨by simp,by simp,by simp,by simp,by simp,by simp,by simp⟩ fun ts hts ok hb c hN hp=>?_
 obtain⟨t,rfl⟩:=zaR hts
 have c1:=Hu p h hd
 unfold zfK
 simp
 refine zaa.mk [0] c1 (by simp) ?_
 simp
 exact EndM.mk [0] [1] (by simp)
theorem zu1{d:Nat}{un:PS->Nod × PS}(Hu:NoOk L 164 d un):RkOk L d 2 un:=by
 intro p h hd
 refine zin ⟨by simp,by simp,by simp,by simp,by simp,by simp,by simp⟩ fun ts hts ok hb c hN hp=>?_
 obtain⟨t,rfl⟩:=zaR hts
 have c1:=Hu p h hd
 unfold zfK
 simp
 refine zaa.mk [0] c1 (by simp) ?_
 simp
 exact EndM.mk [0] [1] (by simp)
end
end Go.Gr
namespace Go.Gr
open Go.Abs Go.Proofs
section
variable {L:List Tok}
abbrev cmpS:List ByteArray:=[bs [60],bs [60,61],bs [61,61]]
set_option maxRecDepth 20000 in
set_option maxHeartbeats 2000000 in
theorem zyD(hL:OkL L)(hl:L.length<=10000){d:Nat}{ki:PS->Typ × PS}{rk:PS->Nod × PS}(hk:Tame L ki)(Hk:KiOk L d ki)(hr:Tame L rk)(Hr:RkOk L d 3 rk):
  NoOk L 164 d (cmpP L ki rk):=by
 intro p h hd
 refine zvg ⟨by simp,by simp,by simp,by simp,by simp,by simp,by simp⟩ fun ts hts ok hb c hN hp=>?_
 obtain⟨t,rfl⟩:=zaR hts
 have c1:=Hr p h hd
 have t1:=hr p h
 have a0:=zhf (L:=L) 14 _ t1.lt
 obtain⟨F0,hF0⟩:∃F0,cmpP L ki rk p=F0:=⟨_,rfl⟩
 rw[hF0]
 unfold cmpP at hF0
 simp only at hF0
 rw[show rk p=((rk p).1,(rk p).2)from rfl]at hF0
 simp only at hF0
 generalize (rk p).1=A at*
 generalize (rk p).2=p1 at*
 have hd1:p1.deep=d:=by rw[t1.deep,hd]
 unfold zot
 simp
 refine zaa.mk [0] c1 (by simp) ?_
 simp
 refine zaa.mk [0] a0 (by simp) ?_
 simp
 refine W.loop zab hp (fun j:Nat=>j<=3/\zdC L (cmpS.drop j) p1=zdC L cmpS p1)
  (fun j=>[(0,.c (.ptr 0 0)),(2,.c (.ptr 2 0)),(3,.c (.ptr 3 0)),(4,.c (.ptr 4 0)),(5,.c (.d (.sl true 1 (encS cmpS)))),(6,.c (.d (.int .i64 j)))])
  (fun j=>[psB L p1,.pin t 0,box8,.box (A.enc.map .d),.box [.d (.int .i64 14),.d (.str (bs [])),.d (.int .i64 0),.d (.int .i64 (curT L p1).line),.d (.int .i64 (curT L p1).col),.d (.sl true 4 []),.d (.sl true 1 []),.d (.sl true 8 [])]])
  (fun j=>3-j) 0 [0,1,2,3,4] ⟨by simp,rfl⟩ (by simp[encS]) fun j ⟨i1,i2⟩=>?_
 unfold lp_gp_cmp_0
 have hsl:cmpS.length=3:=rfl
 simp[hsl]
 refine gd.mk (fun h3=>?_) (fun h3=>?_)
 ·have hj:j<cmpS.length:=by simp at h3;omega
  have hj':j<3:=by omega
  rw[List.drop_eq_getElem_cons hj,zdC]at i2
  have hg:cmpS[j]?=some cmpS[j]:=List.getElem?_eq_getElem hj
  have ht:=zaE cmpS[j] p1 t1.lt hl
  generalize cmpS[j]=s at*
  simp[hg]
  refine zaa.mk [0] ht (by simp) ?_
  by_cases q:(zad L s p1).1=true
  ·rw[if_pos q]at i2
   rw[<-i2]at hF0
   have hF0:(mkN L p1 14 s 0 [] [] [A,(rk (zad L s p1).2).1],(rk (zad L s p1).2).2)=F0:=hF0
   rw[<-hF0]
   have e1:=zag hL t1.lt (s:=s)
   have a2:=Hr _ e1.lt (by rw[e1.deep,hd1])
   simp only
   generalize (zad L s p1).2=p2 at*
   generalize (rk p2).1=B at*
   generalize (rk p2).2=p3 at*
   simp[q]
   refine zaa.mk [0] a2 (by simp) ?_
   simp[hg]
   exact EndM.mkE [0] [1] (by simp[zaQ,encS])
  ·rw[if_neg q]at i2
   rw[zaF q]
   rw[Bool.not_eq_true]at q
   simp[q]
   refine Abs.Next.mk (j+1) [0,1,2,3,4] ⟨by omega,i2⟩ (by omega) ?_
   simp
   exact wrap_i64 (by omega) (by omega)
 ·have hj:j=3:=by simp at h3;omega
  subst hj
  have i2:zdC L cmpS p1=none:=by rw[<-i2];try rfl
  rw[i2]at hF0
  simp only at hF0
  have b1:=zaE (bs [97,115]) p1 t1.lt hl
  simp
  refine zaa.mk [0] b1 (by simp) ?_
  by_cases q1:(zad L (bs [97,115]) p1).1=true
  ·rw[if_pos q1]at hF0
   have e1:=zag hL t1.lt (s:=bs [97,115])
   have a2:=Hk _ e1.lt (by rw[e1.deep,hd1])
   rw[<-hF0]
   simp only
   generalize (zad L (bs [97,115]) p1).2=p2 at*
   generalize (ki p2).1=T at*
   generalize (ki p2).2=p3 at*
   simp[q1]
   refine zaa.mk [0] a2 (by simp) ?_
   simp
   exact EndM.mkE [0] [1] (by simp[zaQ,encS])
  ·rw [if_neg q1]at hF0
   rw[zaF q1]
   rw[Bool.not_eq_true]at q1
   have b2:=zaE (bs [105,115]) p1 t1.lt hl
   simp[q1]
   refine zaa.mk [0] b2 (by simp) ?_
   by_cases q2:(zad L (bs [105,115]) p1).1=true
   ·rw[if_pos q2]at hF0
    have e1:=zag hL t1.lt (s:=bs [105,115])
    generalize (zad L (bs [105,115]) p1).2=p2 at*
    simp[q2]
    refine W.loop zab hp (fun j:Nat=>j<=6/\zcS L j (zdD.drop j) p2=zcS L 0 zdD p2)
     (fun j=>[(0,.c (.ptr 0 0)),(2,.c (.ptr 2 0)),(4,.c (.ptr 4 0)),(9,.c (.d (.sl true 1 (encS zdD)))),(10,.c (.d (.int .i64 j)))])
     (fun j=>[psB L p2,.pin t 0,box8,.box (A.enc.map .d),.box [.d (.int .i64 12),.d (.str (bs [])),.d (.int .i64 0),.d (.int .i64 (curT L p1).line),.d (.int .i64 (curT L p1).col),.d (.sl true 4 []),.d (.sl true 1 []),.d (.sl true 8 [A.enc])]])
     (fun j=>6-j) 0 [0,1,2,3,4] ⟨by simp,rfl⟩ (by simp[encS,zdD]) fun j ⟨j1,j2⟩=>?_
    unfold zk3
    have htl:zdD.length=6:=rfl
    simp[htl]
    refine gd.mk (fun h6=>?_) (fun h6=>?_)
    ·have hj:j<zdD.length:=by simp at h6;omega
     have hj':j<6:=by omega
     rw[List.drop_eq_getElem_cons hj,zcS]at j2
     have hg:zdD[j]?=some zdD[j]:=List.getElem?_eq_getElem hj
     have ht:=zaE zdD[j] p2 e1.lt hl
     generalize zdD[j]=s at*
     simp[hg]
     refine zaa.mk [0] ht (by simp) ?_
     by_cases q:(zad L s p2).1=true
     ·rw[if_pos q]at j2
      rw[<-j2]at hF0
      have hF0:(mkN L p1 12 (bs []) j [] [] [A],(zad L s p2).2)=F0:=hF0
      rw[<-hF0]
      simp[q]
      exact EndM.mkE [0] [1] (by simp[zaQ,encS])
     ·rw[if_neg q]at j2
      rw[zaF q]
      rw[Bool.not_eq_true]at q
      simp[q]
      refine Abs.Next.mk (j+1) [0,1,2,3,4] ⟨by omega,j2⟩ (by omega) ?_
      simp
      exact wrap_i64 (by omega) (by omega)
    ·have hj:j=6:=by simp at h6;omega
     subst hj
     have j2:zcS L 0 zdD p2=none:=by rw[<-j2];try rfl
     rw[j2]at hF0
     have hF0:(mkN L p1 12 (bs []) 0 [] [] [A],zc9 L 7 p2)=F0:=hF0
     rw[<-hF0]
     have b3:=zgl (L:=L) 7 p2 e1.lt
     simp
     refine zaa.mk [0] b3 (by simp) ?_
     simp
     exact EndM.mkE [0] [1] (by simp[zaQ,encS])
   ·rw[if_neg q2]at hF0
    rw[zaF q2,<-hF0]
    rw[Bool.not_eq_true]at q2
    simp[q2]
    exact EndM.mk [0] [1] (by simp)
end
end Go.Gr
namespace Go.Gr
open Go.Abs Go.Proofs
section
variable {L:List Tok}
set_option maxRecDepth 20000 in
set_option maxHeartbeats 2000000 in
theorem zxq(hL:OkL L)(hl:L.length<=10000){d:Nat}{at_ ex:PS->Nod × PS}(ha:Tame L at_)(Ha:NoOk L 166 d at_)(he:Tame L ex)(He:NoOk L 110 d ex):
  NoOk L 165 d (fun p=>zb2 L ex (L.length+1) (at_ p).1 (at_ p).2):=by
 intro p h hd
 refine ztH ⟨by simp,by simp,by simp,by simp,by simp,by simp,by simp⟩ fun ts hts ok hb c hN hp=>?_
 obtain⟨t,rfl⟩:=zaR hts
 have c1:=Ha p h hd
 have t1:=ha p h
 simp only
 obtain⟨F0,hF0⟩:∃F0,zb2 L ex (L.length+1) (at_ p).1 (at_ p).2=F0:=⟨_,rfl⟩
 rw[hF0]
 generalize (at_ p).1=A at*
 generalize (at_ p).2=p1 at*
 have hd1:p1.deep=d:=by rw[t1.deep,hd]
 unfold zmy
 simp
 refine zaa.mk [0] c1 (by simp) ?_
 simp
 refine W.loop zab hp (fun x:Nat × Nod × List D × PS=>zb2 L ex x.1 x.2.1 x.2.2.2=F0/\Tm L p1 x.2.2.2/\L.length<x.1+x.2.2.2.at'/\D.erdL x.2.2.1=x.2.1.enc)
  (fun x=>[(0,.c (.ptr 0 0)),(2,.c (.ptr 2 0)),(3,.c (.ptr 3 0))])
  (fun x=>[psB L x.2.2.2,.pin t 0,box8,.box (x.2.2.1.map .d)])
  (fun x=>x.1) (L.length+1,A,A.enc,p1) [0,1,2,3] ⟨hF0,Tm.refl t1.lt,by simp only;omega,by simp⟩ (by simp) fun⟨n,a,v,q⟩ ⟨i1,i2,i3,i5⟩=>?_
 unfold lp_gp_post_0
 simp only at i1 i2 i5
 have i3:L.length<n+q.at':=i3
 have hlt:=i2.lt
 have hcut:=zuY i5
 have hcut':=zss i5
 have hvl:=zmg i5
 obtain⟨n,rfl⟩:∃m,n=m+1:=⟨n-1,by omega⟩
 rw[zb2]at i1
 have a0:=zhf (L:=L) 7 q hlt
 have a1:=zaE (bs [40]) q hlt hl
 simp
 refine zaa.mk [0] a0 (by simp) ?_
 simp
 refine zaa.mk [0] a1 (by simp) ?_
 by_cases q1:(zad L (bs [40]) q).1=true
 ·rw[if_pos q1]at i1
  simp only at i1
  have hat:=(take_at q1).1
  have e1:=zag hL hlt (s:=bs [40])
  have e2:=e1.trans (he _ e1.lt)
  have e3:=e2.trans (zal hL e2.lt (s:=bs [41]))
  have le1:=(he _ e1.lt).le
  have le2:=(zal hL e2.lt (s:=bs [41])).le
  have a2:=He _ e1.lt (by rw[e1.deep,i2.deep,hd1])
  have a3:=zaK hL (bs [41]) _ e2.lt hl
  generalize (zad L (bs [40]) q).2=q2 at*
  generalize (ex q2).1=B at*
  generalize (ex q2).2=q3 at*
  generalize zay L (bs [41]) q3=q4 at*
  simp[q1]
  refine zaa.mk [0] a2 (by simp) ?_
  simp
  refine zaa.mk [0] a3 (by simp) ?_
  simp[hvl,hcut,hcut']
  refine Abs.Next.mk (n,mkN L q 7 (bs []) 0 [] [] [a,B],([.int .i64 7,.str (bs []),.int .i64 0,.int .i64 (curT L q).line,.int .i64 (curT L q).col,.sl true 4 [],.sl true 1 [],.sl true 8 [v,B.enc]]:List D),q4) [0,1,2,3] ⟨i1,i2.trans e3,by simp only;omega,?_⟩ (by simp) ?_
  ·simp[zaQ,i5,encS]
  ·simp
 ·rw[if_neg q1]at i1
  rw[zaF q1]
  rw[Bool.not_eq_true]at q1
  have a2:=zaE (bs [46]) q hlt hl
  simp[q1]
  refine zaa.mk [0] a2 (by simp) ?_
  by_cases q2:(zad L (bs [46]) q).1=true
  ·rw[if_pos q2]at i1
   simp only at i1
   have hat:=(take_at q2).1
   have e1:=zag hL hlt (s:=bs [46])
   have e2:=e1.trans (zaI hL e1.lt)
   have le1:=(zaI hL e1.lt).le
   have a3:=zbG _ e1.lt hl
   generalize (zad L (bs [46]) q).2=q2' at*
   generalize (zav L q2').1=s at*
   generalize (zav L q2').2=q3 at*
   simp[q2]
   refine zaa.mk [0] a3 (by simp) ?_
   simp[hvl,hcut,hcut']
   refine Abs.Next.mk (n,mkN L q 9 s 0 [] [] [a],([.int .i64 9,.str s,.int .i64 0,.int .i64 (curT L q).line,.int .i64 (curT L q).col,.sl true 4 [],.sl true 1 [],.sl true 8 [v]]:List D),q3) [0,1,2,3] ⟨i1,i2.trans e2,by simp only;omega,?_⟩ (by simp) ?_
   ·simp[zaQ,i5,encS]
   ·simp
  ·rw[if_neg q2]at i1
   rw[zaF q2,<-i1]
   rw[Bool.not_eq_true]at q2
   simp[q2,hvl,hcut,hcut']
   exact EndM.mkE [0] [1] (by simp[hcut,i5])
set_option maxRecDepth 20000 in
set_option maxHeartbeats 2000000 in
theorem zoE(hL:OkL L)(hl:L.length<=10000){ki:PS->Typ × PS}{ex un:PS->Nod × PS}(hk:Tame L ki)(he:Tame L ex)(hu:Tame L un)(p:PS)(h:p.at'<L.length)(hd:p.deep<=100)
  (Hu:p.deep<100->NoOk L 163 (p.deep+1) un) (Hp:p.deep<100->NoOk L 165 (p.deep+1) (ziU L ki ex)):
  MCall Pg 163 [.c (.ptr 0 0)] [psB L p] (.ag ((if(zau L p).1=true then zcn (zdX L ki ex un (zau L p).2)else(noN,(zau L p).2)).1.enc.map .d)) [psB L (if(zau L p).1=true then zcn (zdX L ki ex un (zau L p).2)else(noN,(zau L p).2)).2]:=by
 have ce:=zjK p h (by omega)
 refine zrK ⟨by simp,by simp,by simp,by simp,by simp,by simp,by simp⟩ fun ts hts ok hb c hN hp=>?_
 obtain⟨t,rfl⟩:=zaR hts
 unfold mc_gp_unary
 simp
 refine zaa.mk [0] ce (by simp) ?_
 by_cases q:(zau L p).1=true
 ·rw[if_pos q]
  obtain⟨e1,e2,e3⟩:=zb3 q
  have hp1:(zau L p).2.at'<L.length:=by rw[e1];exact h
  have hd1:(zau L p).2.deep=p.deep+1:=by rw[e1]
  have Hu:=Hu e2
  have Hp:=Hp e2
  have a0:=zhf (L:=L) 16 _ hp1
  have a1:=zaE (bs [45]) _ hp1 hl
  unfold zcn zdX
  simp only
  generalize (zau L p).2=p1 at*
  simp[q]
  refine zaa.mk [0] a0 (by simp) ?_
  simp
  refine zaa.mk [0] a1 (by simp) ?_
  by_cases q1:(zad L (bs [45]) p1).1=true
  ·rw[if_pos q1]
   have t1:=zag hL hp1 (s:=bs [45])
   have t2:=t1.trans (hu _ t1.lt)
   have a2:=Hu _ t1.lt (by rw[t1.deep,hd1])
   have hd3:=t2.deep
   rw[hd1]at hd3
   simp only
   generalize (zad L (bs [45]) p1).2=p2 at*
   generalize (un p2).1=A at*
   generalize (un p2).2=p3 at*
   have hw:IntKind.i64.wrap ((p3.deep:Int)-1)=((p3.deep-1:Nat):Int):=by rw[wrap_i64 (by omega) (by omega)];omega
   simp[q1]
   refine zaa.mk [0] a2 (by simp) ?_
   simp
   exact EndM.mkE [0] [1] (by simp[zaQ,encS,hw])
  ·rw[if_neg q1,zaF q1]
   rw[Bool.not_eq_true]at q1
   have a2:=zaE wNot _ hp1 hl
   simp[q1]
   refine zaa.mk [0] a2 (by simp) ?_
   by_cases q2:(zad L wNot p1).1=true
   ·rw[if_pos q2]
    have t1:=zag hL hp1 (s:=wNot)
    have t2:=t1.trans (hu _ t1.lt)
    have a2:=Hu _ t1.lt (by rw[t1.deep,hd1])
    have hd3:=t2.deep
    rw[hd1]at hd3
    simp only
    generalize (zad L wNot p1).2=p2 at*
    generalize (un p2).1=A at*
    generalize (un p2).2=p3 at*
    have hw:IntKind.i64.wrap ((p3.deep:Int)-1)=((p3.deep-1:Nat):Int):=by rw[wrap_i64 (by omega) (by omega)];omega
    simp[q2]
    refine zaa.mk [0] a2 (by simp) ?_
    simp
    exact EndM.mkE [0] [1] (by simp[zaQ,encS,hw])
   ·rw[if_neg q2,zaF q2]
    rw[Bool.not_eq_true]at q2
    have t2:=zsH hL hk he p1 hp1
    have a3:=Hp p1 hp1 hd1
    have hd3:=t2.deep
    rw[hd1]at hd3
    generalize (ziU L ki ex p1).1=A at*
    generalize (ziU L ki ex p1).2=p3 at*
    have hw:IntKind.i64.wrap ((p3.deep:Int)-1)=((p3.deep-1:Nat):Int):=by rw[wrap_i64 (by omega) (by omega)];omega
    simp[q2]
    refine zaa.mk [0] a3 (by simp) ?_
    simp
    exact EndM.mk [0] [1] (by simp[hw])
 ·rw[if_neg q]
  rw[Bool.not_eq_true]at q
  simp[q]
  exact EndM.mkE [0] [1] (by simp[noN,Nod.enc,Nod.encs,encS])
set_option maxRecDepth 20000 in
set_option maxHeartbeats 2000000 in
theorem zqz(hL:OkL L)(hl:L.length<=10000){B:PS->Nod × PS}(hB:Tame L B)(p:PS)(h:p.at'<L.length)(hd:p.deep<=100)(HB:p.deep<100->NoOk L 143 (p.deep+1) B):
  MCall Pg 110 [.c (.ptr 0 0)] [psB L p] (.ag ((if(zau L p).1=true then zcn (B (zau L p).2)else(noN,(zau L p).2)).1.enc.map .d)) [psB L (if(zau L p).1=true then zcn (B (zau L p).2)else(noN,(zau L p).2)).2]:=by
 have ce:=zjK p h (by omega)
 refine ztF ⟨by simp,by simp,by simp,by simp,by simp,by simp,by simp⟩ fun ts hts ok hb c hN hp=>?_
 obtain⟨t,rfl⟩:=zaR hts
 unfold mc_gp_Expr
 simp
 refine zaa.mk [0] ce (by simp) ?_
 by_cases q:(zau L p).1=true
 ·rw[if_pos q]
  obtain⟨e1,e2,e3⟩:=zb3 q
  have hp1:(zau L p).2.at'<L.length:=by rw[e1];exact h
  have hd1:(zau L p).2.deep=p.deep+1:=by rw[e1]
  have HB:=HB e2
  have a0:=HB _ hp1 hd1
  have t1:=hB _ hp1
  have hd3:=t1.deep
  rw[hd1]at hd3
  unfold zcn
  simp only
  generalize (zau L p).2=p1 at*
  generalize (B p1).1=A at*
  generalize (B p1).2=p2 at*
  have hw:IntKind.i64.wrap ((p2.deep:Int)-1)=((p2.deep-1:Nat):Int):=by rw[wrap_i64 (by omega) (by omega)];omega
  simp[q]
  refine zaa.mk [0] a0 (by simp) ?_
  simp
  exact EndM.mk [0] [1] (by simp[hw])
 ·rw[if_neg q]
  rw[Bool.not_eq_true]at q
  simp[q]
  exact EndM.mkE [0] [1] (by simp[noN,Nod.enc,Nod.encs,encS])
end
end Go.Gr
