/- Texts of ours, joined and written short by a program of ours. -/
import Derived.Test.YtlfjlokfciejnaaGreatDoorCJ08
import Derived.Test.YtlfjlokfciejnaaGreatDoorCJ06
set_option maxRecDepth 20000
set_option maxHeartbeats 4000000
set_option linter.unusedVariables false
set_option linter.unusedSimpArgs false
namespace Go.Gr
open Go.Abs Go.Proofs
inductive iB where
 |mk (kind n:Int) (text:fI) (ints:List Int) (names:List fI) (types:List gq) (cos:List gy) (kids:List iB)
mutual
def iB.enc:iB->List D
 |.mk k n t is ns ts cs ks=>[.int .i64 k,.int .i64 n,.str t,.sl false 1 (encI is),.sl false 1 (encS ns),.sl false 4 (ts.map gq.enc),.sl false 5 (cs.map gy.enc),.sl false 8 (iB.encs ks)]
def iB.encs:List iB->List (List D)
 |[]=>[]
 |c::l=>iB.enc c::iB.encs l
end
theorem iB.encs_map(l:List iB):iB.encs l=l.map iB.enc:=by
 induction l with
 |nil=>rfl
 |cons n l ih=>simp[iB.encs,ih]
def iB.kind:iB->Int|.mk k _ _ _ _ _ _ _=>k
def iB.n:iB->Int|.mk _ n _ _ _ _ _ _=>n
def iB.text:iB->fI|.mk _ _ t _ _ _ _ _=>t
def iB.ints:iB->List Int|.mk _ _ _ i _ _ _ _=>i
def iB.names:iB->List fI|.mk _ _ _ _ n _ _ _=>n
def iB.types:iB->List gq|.mk _ _ _ _ _ t _ _=>t
def iB.cos:iB->List gy|.mk _ _ _ _ _ _ c _=>c
def iB.kids:iB->List iB|.mk _ _ _ _ _ _ _ l=>l
theorem iB.enc_eq(t:iB):t.enc=[.int .i64 t.kind,.int .i64 t.n,.str t.text,.sl false 1 (encI t.ints),.sl false 1 (encS t.names),.sl false 4 (t.types.map gq.enc),.sl false 5 (t.cos.map gy.enc),.sl false 8 (t.kids.map iB.enc)]:=by
 cases t;simp[iB.enc,iB.encs_map,iB.kind,iB.text,iB.n,iB.ints,iB.cos,iB.types,iB.names,iB.kids]
@[simp] theorem iB.enc_length(t:iB):t.enc.length=8:=by rw[t.enc_eq];try rfl
structure jW where
  name:fI
  type:gq
  body:iB
def jW.enc(f:jW):List D:=.str f.name::(f.type.enc++f.body.enc)
structure Site where
  module:Int
  line:Int
  col:Int
def Site.enc(s:Site):List D:=[.int .i64 s.module,.int .i64 s.line,.int .i64 s.col]
structure lZ where
  funs:List jW
  main:Int
  sites:List Site
def lZ.enc(p:lZ):List D:=[.sl false 13 (p.funs.map jW.enc),.int .i64 p.main,.sl false 3 (p.sites.map Site.enc)]
def yG:lZ:=⟨[],0,[]⟩
structure CS where
  tab:List kY
  funs:List jW
  main:Int
  sites:List Site
  bad:List iY
  module:Int
  vars:List fI
  wth:List gq
  e:Int
  line:Int
  col:Int
abbrev Env:=List (fI × gq)
abbrev Inf:=Env->CS->(iB × gq) × CS
def cK(k:Int)(l:List iB):iB:=.mk k 0 (bs []) [] [] [] [] l
def cN(k n:Int):iB:=.mk k n (bs []) [] [] [] [] []
def cT(k:Int)(t:fI)(l:List iB):iB:=.mk k 0 t [] [] [] [] l
def noC:iB:=cN 0 0
def kS(a b:gq):gq:=.mk 6 (bs []) [] [a,b]
def lG(ln cl e:Int)(s:CS):CS:=if s.e=0 then {s with e:=e,line:=ln,col:=cl}else s
def kH(t:gq)(ln cl:Int)(s:CS):gq × CS:=
 let r:=qo t s.vars s.wth
 (r.1,if r.2≠0 then lG ln cl 9 s else s)
def pW(t:gq)(ln cl:Int)(s:CS):gq × CS:=((mQ t).1,if(mQ t).2≠0 then lG ln cl 9 s else s)
def mR(x:iB)(t u:gq)(ln cl:Int)(s:CS):iB × CS:=
 if s.e≠0 then(x,s)else(.mk 21 s.sites.length (bs []) [] [] [t,u] [] [x],{s with sites:=s.sites++[⟨s.module,ln,cl⟩]})
def kz(x:iB)(t u:gq)(ln cl:Int)(s:CS):iB × CS:=
 if s.e≠0 then(x,s)else if pV t u=true then(x,s)else if Aa t u=true then mR x t u ln cl s else(x,lG ln cl 15 s)
section
variable (L:iV)
def vU(m k:Int):jd:=(L.mods.getD m.toNat om).decs.getD k.toNat Bh
def tL(e:jI)(l:List gq):gq × Bool:=
 let d:=vU L e.module e.decl;let a:=qo (d.types.getD 0 noT) (d.vars.map (·.1)) l;let b:=qo (d.types.getD 1 noT) (d.vars.map (·.1)) l;let t:=mQ (kS a.1 b.1)
 (t.1,decide (a.2=0)&&(decide (b.2=0)&&decide (t.2=0)))
def tN (ln cl:Int) (e:jI) (l:List gq) (s:CS):(iB × gq) × CS:=
 if(tL L e l).2=false then((noC,noT),lG ln cl 9 s)else
   let r:=kr 256 s.tab ⟨e.module,e.decl,l⟩
   ((cN 6 r.1.1,(tL L e l).1),if r.1.2≠0 then lG ln cl r.1.2 {s with tab:=r.2}else {s with tab:=r.2})
def rP(env:Env)(x:fI):Int:=match fi (λb:fI × gq=>decide (b.1=x)) 0 env.reverse with
 |i=>if i<0 then -1 else env.length-1-i
def sQ(ln cl:Int):List gq->List gq->CS->List gq × CS
 |[],l,s=>(l,s)
 |t::ts,l,s=>if s.e≠0 then(l,s)else sQ ln cl ts (l++[(kH t ln cl s).1]) (kH t ln cl s).2
def xU (n:gz) (env:Env) (s:CS):(iB × gq) × CS:=
 let k:=rP env n.text;let e:=ql (L.scopes.getD s.module.toNat []) n.text
 if 0<=k/\n.kind=4 then((cN 4 k,(env.getD k.toNat (bs [],noT)).2),s)
 else if k<0/\e.2=false then((noC,noT),lG n.line n.col 10 s)
 else if 0<=k then((noC,noT),lG n.line n.col 18 s)
 else
   let d:=vU L e.1.module e.1.decl
   if decide (0<d.vars.length)≠decide (n.kind=19)then((noC,noT),lG n.line n.col 18 s)
   else if n.kind=4 then tN L n.line n.col e.1 [] s
   else
     let r:=sQ n.line n.col n.types [] s
     if r.2.e≠0 then((noC,noT),r.2)
     else if EW d.vars r.1≠0 then((noC,noT),lG n.line n.col (EW d.vars r.1) r.2)
     else tN L n.line n.col e.1 r.1 r.2
end
def pX (n a:gz) (ia ib:Inf) (env:Env) (s:CS):(iB × gq) × CS:=
 let x:=ia env s
 let y:=if 0<n.types.length/\x.2.e=0 then
     (let u:=kH (n.types.getD 0 noT) n.line n.col x.2
      let z:=kz x.1.1 x.1.2 u.1 a.line a.col u.2
      ((z.1,u.1),z.2))
   else x
 let z:=ib (env++[(n.text,y.1.2)]) y.2
 ((cK 18 [y.1.1,z.1.1],z.1.2),z.2)
def xV(n a:gz)(ia:Inf)(env:Env)(s:CS):(iB × gq) × CS:=
 let p:=kH (n.types.getD 0 noT) n.line n.col s;let q:=if 1<n.types.length/\p.2.e=0 then kH (n.types.getD 1 noT) n.line n.col p.2 else(noT,p.2);let x:=ia (env++[(n.text,p.1)]) q.2;let y:=if 1<n.types.length then(let z:=kz x.1.1 x.1.2 q.1 a.line a.col x.2;((z.1,q.1),z.2))else x;let u:=pW (kS p.1 y.1.2) n.line n.col y.2
 ((cK 5 [y.1.1],u.1),u.2)
def ko(u:gq)(ln cl:Int)(x:(iB × gq) × CS):(iB × gq) × CS:=
 if x.1.2.kind=0 then(((mR x.1.1 x.1.2 u ln cl x.2).1,u),(mR x.1.1 x.1.2 u ln cl x.2).2)else x
def xW (n b:gz) (ia ib:Inf) (env:Env) (s:CS):(iB × gq) × CS:=
 let x:=ko (kS noT noT) n.line n.col (ia env s)
 if x.1.2.kind≠6 then((noC,noT),lG n.line n.col 16 x.2)else
   let y:=ib env x.2;let z:=kz y.1.1 y.1.2 (jU x.1.2) b.line b.col y.2
   ((cK 7 [x.1.1,z.1],jV x.1.2),z.2)
def mH:List fI->List fI->Bool
 |_,[]=>false
 |had,n::l=>had.any (λm=>decide (m=n))||mH (had++[n]) l
def qL(n:gz)(ks:Env->CS->(List iB × List gq) × CS)(env:Env)(s:CS):(iB × gq) × CS:=
 let s1:=if mH [] n.names=true then lG n.line n.col 8 s else s;let r:=ks env s1;let u:=pW (.mk 5 (bs []) n.names r.1.2) n.line n.col r.2
 ((.mk 8 0 (bs []) [] n.names [] [] r.1.1,u.1),u.2)
def pY(n:gz)(ia:Inf)(env:Env)(s:CS):(iB × gq) × CS:=
 let x:=ia env s;let f:=je x.1.2 n.text;let y:=if x.1.2.kind=0 then mR x.1.1 x.1.2 (.mk 5 (bs []) [n.text] [noT]) n.line n.col x.2 else(x.1.1,x.2)
 ((cT 9 n.text [y.1],f.1),if f.2=true\/x.1.2.kind=0 then y.2 else lG n.line n.col 17 y.2)
def ry(x:fI):List fI->List gq->List (fI × gq)
 |n::ns,k::ks=>if n=x then ry x ns ks else(n,k)::ry x ns ks
 |_,_=>[]
def xX (n:gz) (ia ib:Inf) (env:Env) (s:CS):(iB × gq) × CS:=
 let x:=ko (bT 5) n.line n.col (ia env s)
 if x.1.2.kind≠5 then((noC,noT),lG n.line n.col 17 x.2)else
   let y:=ib env x.2;let r:=(n.text,y.1.2)::ry n.text x.1.2.names x.1.2.kids;let u:=pW (.mk 5 (bs []) (r.map (·.1)) (r.map (·.2))) n.line n.col y.2
   ((cT 10 n.text [x.1.1,y.1.1],u.1),u.2)
def o8 (q:gz) (env:Env):Env × Env:=
 if q.kind=12/\(q.kids.getD 0 qh).kind=4/\0<=rP env (q.kids.getD 0 qh).text then
   let k:=(rP env (q.kids.getD 0 qh).text).toNat;let b:=env.getD k (bs [],noT)
   (env.set k (b.1,(vS b.2 q.n).1),env.set k (b.1,(vS b.2 q.n).2))
 else(env,env)
def xY(q a b:gz)(iq ia ib:Inf)(env:Env)(s:CS):(iB × gq) × CS:=
 let x:=iq env s;let x':=kz x.1.1 x.1.2 (bT 2) q.line q.col x.2;let y:=ia (o8 q env).1 x'.2;let z:=ib (o8 q env).2 y.2;let j:=yh y.1.2 z.1.2;let y':=kz y.1.1 y.1.2 j a.line a.col z.2;let z':=kz z.1.1 z.1.2 j b.line b.col y'.2
 ((cK 11 [x'.1,y'.1,z'.1],j),z'.2)
def xZ (n:gz) (ia:Inf) (env:Env) (s:CS):(iB × gq) × CS:=
 let x:=ia env s
 if x.2.e≠0 then x else
   let u:=kH (n.types.getD 0 noT) n.line n.col x.2
   if u.2.e≠0\/pV x.1.2 u.1=true then((x.1.1,u.1),u.2)else
     let y:=if x.1.2.kind≠0 then mR x.1.1 x.1.2 noT n.line n.col u.2 else(x.1.1,u.2)
     if u.1.kind=0 then((y.1,u.1),y.2)
     else if x.1.2.kind=0 then(((mR y.1 x.1.2 u.1 n.line n.col y.2).1,u.1),(mR y.1 x.1.2 u.1 n.line n.col y.2).2)
     else((.mk 21 y.1.n (bs []) [] [] [noT,u.1] [] [y.1],u.1),y.2)
def nP(n:gz)(i:Inf)(t:gq)(env:Env)(s:CS):iB × CS:=
 let x:=i env s
 kz x.1.1 x.1.2 t n.line n.col x.2
def vV:List fI:=[bs [43],bs [45],bs [42],bs [47],bs [37],bs [60,60],bs [62,62],bs [38],bs [94],bs [60],bs [60,61]]
def Bi(s:fI):Int:=max 0 (fi (λx=>decide (x=s)) 0 vV)
def opC (n a b:gz) (ia ib:Inf) (env:Env) (s:CS):(iB × gq) × CS:=
 if n.text=bs [111,114]then
   let x:=nP a ia (bT 2) env s;let y:=nP b ib (bT 2) env x.2
   ((cK 11 [x.1,cN 2 1,y.1],bT 2),y.2)
 else if n.text=bs [97,110,100]then
   let x:=nP a ia (bT 2) env s;let y:=nP b ib (bT 2) env x.2
   ((cK 11 [x.1,y.1,cN 2 0],bT 2),y.2)
 else if n.text=bs [61,61]then
   let x:=ia env s;let y:=ib env x.2
   ((cK 14 [x.1.1,y.1.1],bT 2),y.2)
 else if n.text=bs [43,43]then
   let x:=nP a ia (bT 4) env s;let y:=nP b ib (bT 4) env x.2
   ((cK 15 [x.1,y.1],bT 4),y.2)
 else
   let x:=nP a ia (bT 3) env s;let y:=nP b ib (bT 3) env x.2
   ((.mk 13 (Bi n.text) (bs []) [] [] [] [] [x.1,y.1],if 9<=Bi n.text then bT 2 else bT 3),y.2)
def p8(n a:gz)(ia:Inf)(env:Env)(s:CS):(iB × gq) × CS:=
 if n.kind=15 then((cK 16 [(nP a ia (bT 2) env s).1],bT 2),(nP a ia (bT 2) env s).2)
 else if n.kind=16 then((cK 17 [(nP a ia (bT 3) env s).1],bT 3),(nP a ia (bT 3) env s).2)
 else if n.kind=12 then((.mk 12 n.n (bs []) [] [] [] [] [(ia env s).1.1],bT 2),(ia env s).2)
 else((cK 19 [(ia env s).1.1],bT 1),(ia env s).2)
mutual
def jC (L:iV):gz->Inf
 | .mk k tx nn ln cl ts ns ks=>λenv s=>
   if s.e≠0 then((noC,noT),s)
   else if k=0 then((cN 0 nn,bT 3),s)
   else if k=1 then((cT 1 tx [],bT 4),s)
   else if k=2 then((cN 2 nn,bT 2),s)
   else if k=3 then((cN 3 0,bT 1),s)
   else if k=18 then((cN 20 0,bT 3),s)
   else if k=4\/k=19 then xU L (.mk k tx nn ln cl ts ns ks) env s
   else if k=8 then qL (.mk k tx nn ln cl ts ns ks) (oP L ks) env s
   else match ks with
     |[]=>((noC,noT),s)
     | a::[]=>
       if k=6 then xV (.mk k tx nn ln cl ts ns ks) a (jC L a) env s
       else if k=9 then pY (.mk k tx nn ln cl ts ns ks) (jC L a) env s
       else if k=13 then xZ (.mk k tx nn ln cl ts ns ks) (jC L a) env s
       else p8 (.mk k tx nn ln cl ts ns ks) a (jC L a) env s
     | a::b::[]=>
       if k=5 then pX (.mk k tx nn ln cl ts ns ks) a (jC L a) (jC L b) env s
       else if k=7 then xW (.mk k tx nn ln cl ts ns ks) b (jC L a) (jC L b) env s
       else if k=10 then xX (.mk k tx nn ln cl ts ns ks) (jC L a) (jC L b) env s
       else opC (.mk k tx nn ln cl ts ns ks) a b (jC L a) (jC L b) env s
     |a::b::c::_=>xY a b c (jC L a) (jC L b) (jC L c) env s
def oP (L:iV):List gz->Env->CS->(List iB × List gq) × CS
 |[]=>λenv s=>(([],[]),s)
 | n::l=>λenv s=>
   let x:=jC L n env s;let r:=oP L l env x.2
   ((x.1.1::r.1.1,x.1.2::r.1.2),r.2)
end
def u7:List gq->Nat->fI->fI
 |[],_,s=>s
 |t::l,i,s=>u7 l (i+1) (s++(if i=0 then bs [91]else bs [44,32])++yE t)
def nL(L:iV)(x:kY)(s0:CS):CS:=
 let d:=vU L x.module x.decl;let s:CS:={s0 with module:=x.module,vars:=d.vars.map (·.1),wth:=x.types,e:=0}
 let a:=kH (d.types.getD 0 noT) d.line d.col s;let b:=kH (d.types.getD 1 noT) d.line d.col a.2;let t:gq × CS:=if b.2.e=0 then pW (kS a.1 b.1) d.line d.col b.2 else(kS a.1 b.1,b.2);let s2:CS:=if x.module=L.main.module/\x.decl=L.main.decl/\Aa (bT 1) a.1=false then lG d.line d.col 14 t.2 else t.2;let y:=jC L d.body [(d.param,a.1)] s2;let z:=kz y.1.1 y.1.2 b.1 d.body.line d.body.col y.2;let nm:=u7 x.types 0 (L.names.getD x.module.toNat (bs [])++bs [46]++d.name);let nm:=if 0<x.types.length then nm++bs [93]else nm;let s3:CS:={z.2 with funs:=z.2.funs++[⟨nm,t.1,z.1⟩]}
 if s3.e≠0 then {s3 with bad:=s3.bad++[⟨x.module,s3.line,s3.col,s3.e⟩]}else s3
def vB (L:iV) (i:Nat):List jd->Nat->CS->CS × List iY
 |[],_,s=>(s,[])
 | d ::l,k,s=>
   if 0<d.vars.length then vB L i l (k+1) s else
     let r:=kr 256 s.tab ⟨i,k,[]⟩
     if r.1.2≠0 then({s with tab:=r.2},[⟨i,d.line,d.col,r.1.2⟩])
     else vB L i l (k+1) {s with tab:=r.2,main:=if(i:Int)=L.main.module/\(k:Int)=L.main.decl then r.1.1 else s.main}
def rz(L:iV):List jZ->Nat->CS->CS × List iY
 |[],_,s=>(s,[])
 |m::l,i,s=>if 0<(vB L i m.decs 0 s).2.length then vB L i m.decs 0 s else rz L l (i+1) (vB L i m.decs 0 s).1
def pJ(L:iV):Nat->Nat->CS->CS
 |0,_,s=>s
 |n+1,i,s=>if i<s.tab.length then pJ L n (i+1) (nL L (s.tab.getD i ⟨0,0,[]⟩) s)else s
def cs0:CS:=⟨[],[],0,[],[],0,[],[],0,0,0⟩
def Ae (L:iV):lZ × List iY:=
 let a:=rz L L.mods 0 cs0
 if 0<a.2.length then(yG,a.2)else
   let s:=pJ L 257 0 a.1
   if 0<s.bad.length then(yG,s.bad)else(⟨s.funs,s.main,s.sites⟩,[])
def qM:List (fI × fI)->Int->Bool
 |[],_=>true
 |s::l,n=>if 70000-n<s.2.size\/1000<s.1.size then false else qM l (n+s.2.size)
def tO:List (fI × fI)->Int
 |[]=>0
 |s::l=>s.2.size+tO l
def vE (l:List (fI × fI)):lZ × Bool:=
 if 20<l.length\/qM l 0=false\/5000<tO l then(yG,false)else
   let x:=yl l
   if 0<x.2.length then(yG,false)else
     let r:=Ae x.1
     (r.1,decide (r.2.length=0))
def Uq:MC:=(λx(_:x=gC tt [] [] [] (iO 0 (gB Tryz.f161)))=>x) _ (by dsimp[Tryz.f161])
def Ur:MC:=(λx(_:x=gC tt [] [] [(0,Uq)] (gB Tryz.f161))=>x) _ (by dsimp[Tryz.f161])
theorem zkM:WT Pg 161 31 Ur [.tmp 4]:=wT iC Tryz.func161 (by kernel_rfl)
def Us:MC:=(λx(_:x=gC tt [] [] [] (gB Tryz.f129))=>x) _ (by dsimp[Tryz.f129])
theorem zkN:WT Pg 129 5 Us [.tmp 2]:=wT iC Tryz.func129 (by kernel_rfl)
def Ut:MC:=(λx(_:x=gC tt [] [] [] (gB Tryz.f128))=>x) _ (by dsimp[Tryz.f128])
theorem ziU:WT Pg 128 5 Ut [.tmp 2]:=wT iC Tryz.func128 (by kernel_rfl)
def Uu:MC:=(λx(_:x=gC tt [] [] [] (iO 0 (gB Tryz.f160)))=>x) _ (by dsimp[Tryz.f160])
def JD:MC:=(λx(_:x=gC tt [] [] [(0,Uu)] (gB Tryz.f160))=>x) _ (by dsimp[Tryz.f160])
theorem Mj:WT Pg 160 31 JD [.tmp 4]:=wT iC Tryz.func160 (by kernel_rfl)
def Mk:MC:=(λx(_:x=gC tt [] [(6,[0,1,0,7,15,0,32,0,224,480,1023])] [] (iO 0 (gB Tryz.f77)))=>x) _ (by dsimp[Tryz.f77])
def Ml:MC:=(λx(_:x=gC tt [] [(11,[0,1,0,7,15,0,32,0,224,480,1023,2047])] [] (iO 2 (gB Tryz.f77)))=>x) _ (by dsimp[Tryz.f77])
def Uv:MC:=(λx(_:x=gC tt [] [] [(0,Mk),(2,Ml)] (gB Tryz.f77))=>x) _ (by dsimp[Tryz.f77])
theorem zkO:WT Pg 77 76 Uv [.tmp 4]:=wT iC Tryz.func77 (by kernel_rfl)
def Uw:MC:=(λx(_:x=gC tt [] [] [] (gB Tryz.f76))=>x) _ (by dsimp[Tryz.f76])
theorem zkP:WT Pg 76 24 Uw [.cell 2 true 4,.tmp 3]:=wT iC Tryz.func76 (by kernel_rfl)
def Mm:MC:=(λx(_:x=gC tt [] [] [] (iO 1 (gB Tryz.f130)))=>x) _ (by dsimp[Tryz.f130])
def Ux:MC:=(λx(_:x=gC tt [(4,50),(4,64),(6,1)] [] [(1,Mm)] (gB Tryz.f130))=>x) _ (by dsimp[Tryz.f130])
theorem zkQ:WT Pg 130 68 Ux [.cell 2 true 4,.tmp 3]:=wT iC Tryz.func130 (by kernel_rfl)
def Mo:MC:=(λx(_:x=gC tt [] [(9,[0,0,2,6,15,31,63,127,63,511,1023,63,63,6207,14399,32767,65535])] [] (iO 2 (gB Tryz.f162)))=>x) _ (by dsimp[Tryz.f162])
def Uy:MC:=(λx(_:x=gC tt [] [(11,[0,1,3,7,7,23,55,127,255,511,1023,511,4095,8191,511,511,49663,115199,262143,524287,1048575])] [(2,Mo)] (iO 0 (gB Tryz.f162)))=>x) _ (by dsimp[Tryz.f162])
def Uz:MC:=(λx(_:x=gC tt [(6,0)] [] [(0,Uy)] (gB Tryz.f162))=>x) _ (by dsimp[Tryz.f162])
theorem ziV:WT Pg 162 117 Uz [.cell 4 true 4,.tmp 5]:=wT iC Tryz.func162 (by kernel_rfl)
def VA:MC:=(λx(_:x=gC tt [] [] [] (iO 0 (gB Tryz.f163)))=>x) _ (by dsimp[Tryz.f163])
def Mq:MC:=(λx(_:x=gC tt [] [(20,[0,1,0,0,12,28,60,127,255,511]),(22,[0,0,3,7,0,16,0,64,192,448,1008,2032,4095,8191])] [] (iO 4 (gB Tryz.f163)))=>x) _ (by dsimp[Tryz.f163])
def VB:MC:=(λx(_:x=gC tt [] [] [(4,Mq)] (iO 2 (gB Tryz.f163)))=>x) _ (by dsimp[Tryz.f163])
def VC:MC:=(λx(_:x=gC tt [(6,0),(6,2)] [(27,[0,0,2,6,14,1,63])] [(0,VA),(2,VB)] (gB Tryz.f163))=>x) _ (by dsimp[Tryz.f163])
theorem zjZ:WT Pg 163 102 VC [.cell 2 true 4,.tmp 3]:=wT iC Tryz.func163 (by kernel_rfl)
def VD:MC:=(λx(_:x=gC tt [] [] [] (gB Tryz.f152))=>x) _ (by dsimp[Tryz.f152])
theorem zlu:WT Pg 152 15 VD [.tmp 2]:=wT iC Tryz.func152 (by kernel_rfl)
def VE:MC:=(λx(_:x=gC tt [] [] [] (gB Tryz.f60))=>x) _ (by dsimp[Tryz.f60])
theorem zDl:WT Pg 60 22 VE [.tmp 2]:=wT iC Tryz.func60 (by kernel_rfl)
def Mr:MC:=(λx(_:x=gC tt [] [(19,[0,0,2,0,14,30,63,127,0,256,0,1792,3840,7936,16383,32767])] [] (iO 1 (gB Tryz.f94)))=>x) _ (by dsimp[Tryz.f94])
def Ms:MC:=(λx(_:x=gC tt [] [] [] (iO 3 (gB Tryz.f94)))=>x) _ (by dsimp[Tryz.f94])
def VF:MC:=(λx(_:x=gC tt [] [(22,[0,1,3,7,15,31,0,64,192,448,991,2047,4095])] [(1,Mr),(3,Ms)] (gB Tryz.f94))=>x) _ (by dsimp[Tryz.f94])
theorem zDm:WT Pg 94 90 VF [.tmp 4]:=wT iC Tryz.func94 (by kernel_rfl)
def VG:MC:=(λx(_:x=gC tt [] [] [] (gB Tryz.f50))=>x) _ (by dsimp[Tryz.f50])
theorem ziW:WT Pg 50 19 VG [.tmp 2]:=wT iC Tryz.func50 (by kernel_rfl)
def VH:MC:=(λx(_:x=gC tt [] [] [] (iO 0 (gB Tryz.f111)))=>x) _ (by dsimp[Tryz.f111])
def VI:MC:=(λx(_:x=gC tt [] [(17,[0,0,2,0,14,30,62,0,128,0,896,1920,4094,8190,16383,32767])] [] (iO 2 (gB Tryz.f111)))=>x) _ (by dsimp[Tryz.f111])
def Mt:MC:=(λx(_:x=gC tt [(6,0),(6,2)] [(13,[0,1,0,7,15,31])] [(0,VH),(2,VI)] (gB Tryz.f111))=>x) _ (by dsimp[Tryz.f111])
theorem VJ:WT Pg 111 65 Mt [.tmp 2]:=wT iC Tryz.func111 (by kernel_rfl)
def VK:MC:=(λx(_:x=gC tt [] [] [] (iO 0 (gB Tryz.f132)))=>x) _ (by dsimp[Tryz.f132])
def VL:MC:=(λx(_:x=gC tt [] [] [(0,VK)] (gB Tryz.f132))=>x) _ (by dsimp[Tryz.f132])
theorem zkR:WT Pg 132 25 VL [.cell 4 true 6,.tmp 5]:=wT iC Tryz.func132 (by kernel_rfl)
def VM:MC:=(λx(_:x=gC tt [] [] [] (iO 0 (gB Tryz.f133)))=>x) _ (by dsimp[Tryz.f133])
def VN:MC:=(λx(_:x=gC tt [] [] [(0,VM)] (gB Tryz.f133))=>x) _ (by dsimp[Tryz.f133])
theorem zj0:WT Pg 133 27 VN [.cell 4 true 4,.tmp 5]:=wT iC Tryz.func133 (by kernel_rfl)
def Mv:MC:=(λx(_:x=gC tt [] [(15,[0,0,2,6,0,30,62,127,255,511,511,0,3071,8191]),(16,[0,1,3,7,7,23,55,7,247,503,7,2047,4095,8191])] [] (iO 2 (gB Tryz.f80)))=>x) _ (by dsimp[Tryz.f80])
def VO:MC:=(λx(_:x=gC tt [] [(18,[0,1,3,7,15,31,63,127,255,15,527,1551,3599,15,16383,32767,65535,131071,262143,524287,1048575,131071,2228223,6422527,14811135,31588351,131071,134217727,268435455,536870911,1073741823])] [(2,Mv)] (iO 0 (gB Tryz.f80)))=>x) _ (by dsimp[Tryz.f80])
def VP:MC:=(λx(_:x=gC tt [] [] [(0,VO)] (gB Tryz.f80))=>x) _ (by dsimp[Tryz.f80])
theorem zBY:WT Pg 80 123 VP [.tmp 6]:=wT iC Tryz.func80 (by kernel_rfl)
def VQ:MC:=(λx(_:x=gC tt [] [] [] (gB Tryz.f92))=>x) _ (by dsimp[Tryz.f92])
theorem zEG:WT Pg 92 20 VQ [.tmp 4]:=wT iC Tryz.func92 (by kernel_rfl)
def VR:MC:=(λx(_:x=gC tt [] [] [] (gB Tryz.f55))=>x) _ (by dsimp[Tryz.f55])
theorem zDn:WT Pg 55 20 VR [.tmp 4]:=wT iC Tryz.func55 (by kernel_rfl)
def VS:MC:=(λx(_:x=gC tt [] [] [] (iO 0 (gB Tryz.f139)))=>x) _ (by dsimp[Tryz.f139])
def VT:MC:=(λx(_:x=gC tt [(4,128),(6,0)] [] [(0,VS)] (gB Tryz.f139))=>x) _ (by dsimp[Tryz.f139])
theorem zDo:WT Pg 139 136 VT [.cell 4 true 4]:=wT iC Tryz.func139 (by kernel_rfl)
def VU:MC:=(λx(_:x=gC tt [] [(18,[0,1,0,4,0,28,60,124,255,511,1023])] [] (iO 0 (gB Tryz.f138)))=>x) _ (by dsimp[Tryz.f138])
def VV:MC:=(λx(_:x=gC tt [(6,0)] [(3,[0,0,1,7]),(6,[0,0,1,7]),(7,[0,1,3,0,7,31]),(10,[0,0,1,7]),(12,[0,0,1,7]),(20,[0,1,0,4,12,28,3,127]),(21,[0,1,0,3,15])] [(0,VU)] (gB Tryz.f138))=>x) _ (by dsimp[Tryz.f138])
theorem zAn:WT Pg 138 91 VV [.cell 4 true 4,.cell 5 true 4]:=wT iC Tryz.func138 (by kernel_rfl)
def VW:MC:=(λx(_:x=gC tt [] [] [] (iO 0 (gB Tryz.f31)))=>x) _ (by dsimp[Tryz.f31])
def VX:MC:=(λx(_:x=gC tt [] [] [(0,VW)] (gB Tryz.f31))=>x) _ (by dsimp[Tryz.f31])
theorem zAo:WT Pg 31 19 VX [.tmp 4]:=wT iC Tryz.func31 (by kernel_rfl)
def VY:MC:=(λx(_:x=gC tt [(3,46)] [(10,[0,1,0,0,12,28,60,127,255]),(11,[0,1,0,0,12,28,60,124,255,511,1023])] [] (iO 0 (gB Tryz.f28)))=>x) _ (by dsimp[Tryz.f28])
def VZ:MC:=(λx(_:x=gC tt [(6,0)] [] [(0,VY)] (gB Tryz.f28))=>x) _ (by dsimp[Tryz.f28])
theorem zBZ:WT Pg 28 91 VZ [.cell 2 true 6,.tmp 3]:=wT iC Tryz.func28 (by kernel_rfl)
def V3:MC:=(λx(_:x=gC tt [] [] [] (iO 0 (gB Tryz.f48)))=>x) _ (by dsimp[Tryz.f48])
def V4:MC:=(λx(_:x=gC tt [] [] [(0,V3)] (gB Tryz.f48))=>x) _ (by dsimp[Tryz.f48])
theorem zDp:WT Pg 48 25 V4 [.cell 4 true 3,.tmp 5]:=wT iC Tryz.func48 (by kernel_rfl)
def V5:MC:=(λx(_:x=gC tt [] [] [] (iO 0 (gB Tryz.f32)))=>x) _ (by dsimp[Tryz.f32])
def V6:MC:=(λx(_:x=gC tt [] [] [(0,V5)] (gB Tryz.f32))=>x) _ (by dsimp[Tryz.f32])
theorem zDq:WT Pg 32 22 V6 [.tmp 4]:=wT iC Tryz.func32 (by kernel_rfl)
def V7:MC:=(λx(_:x=gC tt [(3,58)] [(9,[0,1,0,7,15,0,32,0,224,480,1023,2047])] [] (iO 0 (gB Tryz.f47)))=>x) _ (by dsimp[Tryz.f47])
def V8:MC:=(λx(_:x=gC tt [(6,0),(7,1)] [(5,[0,0,2,1,15])] [(0,V7)] (gB Tryz.f47))=>x) _ (by dsimp[Tryz.f47])
theorem zxT:WM Pg 47 100 V8 [.tmp 8,.tmp 9]:=wM iC Tryz.func47 (by kernel_rfl)
def Mw:MC:=(λx(_:x=gC tt [(9,47)] [(11,[0,0,0,4,0,28,60,0,255,511,1023,1023,2047,8191])] [] (iO 2 (gB Tryz.f29)))=>x) _ (by dsimp[Tryz.f29])
def Mx:MC:=(λx(_:x=gC tt [(3,65)] [(19,[0,0,0,4,0,28,60,124,0,256,0,1792,3840,7936,16382,32766,65535,131071])] [] (iO 4 (gB Tryz.f29)))=>x) _ (by dsimp[Tryz.f29])
def V9:MC:=(λx(_:x=gC tt [(4,98),(6,2)] [] [(2,Mw),(4,Mx)] (iO 0 (gB Tryz.f29)))=>x) _ (by dsimp[Tryz.f29])
def Va:MC:=(λx(_:x=gC tt [(6,0)] [] [(0,V9)] (gB Tryz.f29))=>x) _ (by dsimp[Tryz.f29])
theorem zAp:WT Pg 29 104 Va [.tmp 2,.tmp 3]:=wT iC Tryz.func29 (by kernel_rfl)
def NA:MC:=(λx(_:x=gC tt [] [(13,[0,1,0,0,12,28,60,127,255])] [] (iO 4 (gB Tryz.f49)))=>x) _ (by dsimp[Tryz.f49])
def NB:MC:=(λx(_:x=gC tt [] [] [(4,NA)] (iO 2 (gB Tryz.f49)))=>x) _ (by dsimp[Tryz.f49])
def Vb:MC:=(λx(_:x=gC tt [] [] [(2,NB)] (iO 0 (gB Tryz.f49)))=>x) _ (by dsimp[Tryz.f49])
def Vd:MC:=(λx(_:x=gC tt [(1,16)] [] [(0,Vb)] (gB Tryz.f49))=>x) _ (by dsimp[Tryz.f49])
theorem zz0:WT Pg 49 69 Vd [.tmp 6]:=wT iC Tryz.func49 (by kernel_rfl)
def NC:MC:=(λx(_:x=gC tt [] [(9,[0,1,0,0,12,28,60,127,255]),(12,[0,0,0,0,12,28,60,0,0,384,896,1920,4094,8190,16383,32767])] [] (iO 2 (gB Tryz.f30)))=>x) _ (by dsimp[Tryz.f30])
def Ve:MC:=(λx(_:x=gC tt [] [] [(2,NC)] (iO 0 (gB Tryz.f30)))=>x) _ (by dsimp[Tryz.f30])
def Vf:MC:=(λx(_:x=gC tt [(6,0)] [] [(0,Ve)] (gB Tryz.f30))=>x) _ (by dsimp[Tryz.f30])
theorem zB0:WT Pg 30 61 Vf [.tmp 2]:=wT iC Tryz.func30 (by kernel_rfl)
def Vg:MC:=(λx(_:x=gC tt [] [(20,[0,0,0,4,0,16,62,126,1,511])] [] (gB Tryz.f16))=>x) _ (by dsimp[Tryz.f16])
theorem zDr:WT Pg 16 88 Vg [.cell 2 true 6,.tmp 3]:=wT iC Tryz.func16 (by kernel_rfl)
end Go.Gr
namespace Go.Gr
open Go.Abs Go.Proofs List
theorem Bj{t:gq}(o:DV.ok (.agg t.enc)):t.names.length<=zah/\t.kids.length<=zah:=by
 rw[gq.enc_eq]at o;simp only[DV.ok,D.okL,D.ok,Bc,aU]at o;exact⟨o.2.2.1.1,o.2.2.2.1.1⟩
@[simp] theorem gq.enc_g1(t:gq)(h:1<t.enc.length):t.enc[1]=.str t.name:=by have:=t.enc_1;rw[aA h]at this;exact bP this
mutual
theorem JE:∀(t:gq) (m:Int),1<=nX t m/\nX t m<=max 1 m
|.mk _ _ _ l,m=>by have:=JF l m 1 (by omega);rw[nX];omega
theorem JF:∀(l:List gq) (m n:Int),1<=n->n<=qK l m n/\qK l m n<=max n m
|[],m,n,h=>by rw[qK];omega
| t::l,m,n,h=>by
 rw[qK];split
 ·have h1:=JE t (m-n);have h2:=JF l m (n+nX t (m-n)) (by omega);omega
 ·omega
end
theorem zj9{l:List gq}{m n:Int}(h:¬n<m):qK l m n=n:=by
 cases l with
 |nil=>rw[qK]
 |cons d l=>rw[qK,aB h]
theorem zmV(t:gq)(ih:∀e,e∈t.kids->∀m:Int,1<=m->m<=1000->gu Pg 161 [.agg e.enc,.one (.int .i64 m)] (.one (.int .i64 (nX e m))))(m:Int)(h1:1<=m)(h2:m<=1000):
  gu Pg 161 [.agg t.enc,.one (.int .i64 m)] (.one (.int .i64 (nX t m))):=by
 refine zkM (by simp) λo c hN hp=>?_;have hf:=Bj o.1;unfold zah at hf;have e:nX t m=qK t.kids m 1:=by cases t;rw[nX];try rfl
 rw[e];unfold Ur;simp;refine fU iC hp (λx:Nat × Int=>x.1<=t.kids.length/\(1<=x.2/\x.2<=1000)/\qK (t.kids.drop x.1) m x.2=qK t.kids m 1) (λx=>[(6,.c (.d (.int .i64 x.1))),(5,.c (.d (.int .i64 x.2))),(2,.c (.d (.rp t.enc 0))),(1,.c (.d (.int .i64 m)))]) (λ_=>[]) (λx=>t.kids.length-x.1) (0,1) [] ⟨by simp,by simp,by simp⟩ (by simp) λ⟨j,n⟩ ⟨hx1,hx3,hx2⟩=>?_;unfold Uq;simp only at hx1 hx2 hx3;simp;apply gT<;>intro h
 ·have hj:j<t.kids.length:=by simpa using h
  rw[aF hj]at hx2;apply gT<;>intro h
  ·simp at h;rw[qK,aC h]at hx2;have hw:IntKind.i64.wrap (m-n)=m-n:=wI;simp[aA hj,hw];refine gp (ih _ (aP hj) (m-n) (by omega) (by omega)) ?_;have hle:=JE t.kids[j] (m-n);simp;refine fJ (j+1,n+nX t.kids[j] (m-n)) [] ⟨by simp;omega,by simp only;omega,hx2⟩ (by simp;omega) ?_;simp;exact⟨wI,wI⟩
  ·simp at h;rw[zj9 (by omega)]at hx2;simp[hx2]
 ·have hj:j=t.kids.length:=by simp at h;omega
  subst hj;rw[aO,qK]at hx2;simp[hx2]
mutual
theorem Vh:∀(t:gq) (m:Int),1<=m->m<=1000->gu Pg 161 [.agg t.enc,.one (.int .i64 m)] (.one (.int .i64 (nX t m)))
|.mk k n s l,m,h1,h2=>zmV (.mk k n s l) (λe h=>Vi l e h) m h1 h2
theorem Vi:∀(l:List gq) (e:gq),e∈l->∀m:Int,1<=m->m<=1000->gu Pg 161 [.agg e.enc,.one (.int .i64 m)] (.one (.int .i64 (nX e m)))
|[],e,h=>by cases h
|d::l,e,h=>by
 cases h with
 |head=>exact Vh d
 |tail _ h=>exact Vi l e h
end
theorem ND(t:gq):gu Pg 129 [.agg t.enc] (.one (.int .i64 (nX t 201))):=by
 refine zkN (by simp) λo c hN hp=>?_;unfold Us;simp;refine gp (Vh t 201 (by omega) (by omega)) ?_;simp
theorem NE(f:gq->Int)(B:Int):∀(l:List gq) (a:Int),0<=a->a<=B->(∀x,x∈l->f x<=B)->0<=l.foldl (λh k=>if h<f k then f k else h) a/\l.foldl (λh k=>if h<f k then f k else h) a<=B
|[],a,h0,h,_=>⟨h0,h⟩
|x::l,a,h0,h,hl=>by
 have hx:=hl x (by simp);rw[foldl_cons];split
 ·exact NE f B l _ (by omega) hx λy hy=>hl y (by simp[hy])
 ·exact NE f B l _ h0 h λy hy=>hl y (by simp[hy])
theorem Vj:∀(n:Nat) (t:gq),1<=oI n t/\oI n t<=max 1 n
|0,t=>by rw[oI];omega
|1,t=>by rw[oI];omega
|n+2,t=>by
 rw[oI];have:=NE (oI (n+1)) (n+1) t.kids 0 (by omega) (by omega) λx _=>by have:=Vj (n+1) x;omega
 omega
theorem Vk:∀(n:Nat) (t:gq),n<=100->gu Pg 160 [.agg t.enc,.one (.int .i64 n)] (.one (.int .i64 (oI n t)))
|0,t,hn=>by
 refine Mj (by simp) λo c hN hp=>?_;unfold JD;simp[oI]
|1,t,hn=>by
 refine Mj (by simp) λo c hN hp=>?_;unfold JD;simp[oI]
| n+2,t,hn=>by
 refine Mj (by simp) λo c hN hp=>?_;have hf:=Bj o.1;unfold zah at hf;have e:oI (n+2) t=t.kids.foldl (λh k=>if h<oI (n+1) k then oI (n+1) k else h) 0+1:=by rw[oI]
 rw[e];obtain⟨R,hR⟩:∃R,t.kids.foldl (λh k=>if h<oI (n+1) k then oI (n+1) k else h) 0=R:=⟨_,rfl⟩
 rw[hR];unfold JD;have hne:¬(((n+2:Nat):Int)<=1):=by omega
 have hne':¬((n:Int)+2<=1):=by omega
 have hw:IntKind.i64.wrap ((n:Int)+2-1)=((n+1:Nat):Int):=by rw[wI];omega
 simp[hne,hne'];refine fU iC hp (λx:Nat × Int=>x.1<=t.kids.length/\(0<=x.2/\x.2<=n+1)/\(t.kids.drop x.1).foldl (λh k=>if h<oI (n+1) k then oI (n+1) k else h) x.2=R) (λx=>[(6,.c (.d (.int .i64 x.1))),(5,.c (.d (.int .i64 x.2))),(1,.c (.d (.int .i64 (n+2:Nat)))),(2,.c (.d (.rp t.enc 0)))]) (λ_=>[]) (λx=>t.kids.length-x.1) (0,0) [] ⟨by simp,⟨by simp,by simp only;omega⟩,by simpa using hR⟩ (by simp) λ⟨j,r⟩ ⟨hx1,hx3,hx2⟩=>?_;unfold Uu;simp only at hx1 hx2 hx3;simp;apply gT<;>intro h
 ·have hj:j<t.kids.length:=by simpa using h
  rw[aF hj,foldl_cons]at hx2;simp[aA hj,hw];refine gp (Vk (n+1) t.kids[j] (by omega)) ?_;have hle:=Vj (n+1) t.kids[j];generalize oI (n+1) t.kids[j]=q at*
  by_cases hq:r<q
  ·rw[aC hq]at hx2;simp[hq];refine fJ (j+1,q) [] ⟨by simp;omega,by simp only;omega,hx2⟩ (by simp;omega) ?_;simp;exact wI
  ·rw[aB hq]at hx2;simp[hq];refine fJ (j+1,r) [] ⟨by simp;omega,by simp only;omega,hx2⟩ (by simp;omega) ?_;simp;exact wI
 ·have hj:j=t.kids.length:=by simp at h;omega
  subst hj;rw[aO,foldl_nil]at hx2;subst hx2;exact wI
theorem Fb(t:gq):gu Pg 128 [.agg t.enc] (.one (.int .i64 (oI 17 t))):=by
 refine ziU (by simp) λo c hN hp=>?_;unfold Ut;simp;refine gp (Vk 17 t (by omega)) ?_;simp
theorem DD(t:gq):gu Pg 152 [.agg t.enc] (.one (.int .i64 (iN t))):=by
 refine zlu (by simp) λo c hN hp=>?_;unfold VD iN;by_cases h1:t.kind=1
 ·simp[h1];exact wI
 by_cases h2:t.kind=2
 ·simp[h2];exact wI
 by_cases h3:t.kind=3
 ·simp[h3];exact wI
 by_cases h4:t.kind=4
 ·simp[h4];exact wI
 by_cases h5:t.kind=5
 ·simp[h5];exact wI
 by_cases h6:t.kind=6
 ·simp[h6];exact wI
 rw[aC (by omega)];simp[h1,h2,h3,h4,h5,h6]
theorem Fe:∀(a b:List gq),qX a b=lJ ky a b
|[],[]=>rfl
|[],_::_=>rfl
|_::_,[]=>rfl
|x::a,y::b=>by rw[qX,lJ,Fe a b]
theorem NG(a b:gq):ky a b=(decide (a.kind=b.kind)&&(decide (a.name=b.name)&&(decide (a.names=b.names)&&lJ ky a.kids b.kids))):=by
 cases a;rw[ky,Fe];try rfl
theorem DF{α:Type}{q:α->α->Bool}:∀{a b:List α},lJ q a b=true->a.length=b.length
|[],[],_=>rfl
|[],_::_,h=>by cases h
|_::_,[],h=>by cases h
|x::a,y::b,h=>by
 rw[lJ,aG]at h;simp[DF h.2]
theorem zmW{α:Type}{a b:List α}{j:Nat}(h1:j<a.length)(h2:j<b.length)(h:a.take j=b.take j)(e:a[j]=b[j]):a.take (j+1)=b.take (j+1):=by
 rw[aJ h1,aJ h2,h,e]
theorem zmX(a b:gq)(ih:∀x,x∈a.kids->∀y,gu Pg 77 [.agg x.enc,.agg y.enc] (.one (.bool (ky x y)))):gu Pg 77 [.agg a.enc,.agg b.enc] (.one (.bool (ky a b))):=by
 have e:=NG a b;refine zkO (by simp) λo c hN hp=>?_;have hf:=Bj o.1;unfold zah at hf;generalize ky a b=R at*
 have k2:∀{Q:Exit->St->Prop} {S:St} {g} {ms:List Nat} (hl:a.kids.length=b.kids.length) (h0:iM ms S [(6,.c (.d (.int .i64 0))),(3,.c (.d (.rp b.enc 0))),(2,.c (.d (.rp a.enc 0)))] []),
   (lJ ky a.kids b.kids=false->∀T M n,Abs.look T 4=.c (.d (.bool false))->Q .ret ⟨T,M,n⟩)->(lJ ky a.kids b.kids=true->∀T M n,Q (.exit 2) ⟨T,M,n⟩)->lU Pg c Ml Q g S:=by
  intro Q S g ms hl h0 hn hy;refine fU iC hp (λj:Nat=>j<=a.kids.length/\lJ ky (a.kids.drop j) (b.kids.drop j)=lJ ky a.kids b.kids) (λj=>[(6,.c (.d (.int .i64 j))),(3,.c (.d (.rp b.enc 0))),(2,.c (.d (.rp a.enc 0)))]) (λ_=>[]) (λj=>a.kids.length-j) 0 ms ⟨by simp,by simp⟩ h0 λj ⟨h1,h2⟩=>?_;unfold Ml;simp;apply gT<;>intro h
  ·have hj:j<a.kids.length:=by simpa using h
   have hj2:j<b.kids.length:=by omega
   rw[aF hj,aF hj2,lJ]at h2;simp[aA hj,aA hj2];refine gp (ih _ (aP hj) _) ?_;generalize ky a.kids[j] b.kids[j]=q at*
   cases q with
   |true=>
    simp at h2;simp;refine⟨by decide,?_⟩;refine fJ (j+1) [] ⟨by omega,h2⟩ (by omega) ?_;simp;exact wI
   |false=>
    simp at h2;simp;exact⟨by decide,hn h2 _ _ _ (by simp)⟩
  ·have hj:j=a.kids.length:=by simp at h;omega
   subst hj;rw[aO,hl,aO]at h2;exact hy h2.symm _ _ _
 have k1:∀{Q:Exit->St->Prop} {S:St} {g} {ms:List Nat} (hl:a.names.length=b.names.length) (h0:iM ms S [(5,.c (.d (.int .i64 0))),(3,.c (.d (.rp b.enc 0))),(2,.c (.d (.rp a.enc 0)))] []),
   (a.names≠b.names->∀T M n,Abs.look T 4=.c (.d (.bool false))->Q .ret ⟨T,M,n⟩)->(a.names=b.names->∀T M n,Abs.look T 2=.c (.d (.rp a.enc 0))->Abs.look T 3=.c (.d (.rp b.enc 0))->Q (.exit 0) ⟨T,M,n⟩)->lU Pg c Mk Q g S:=by
  intro Q S g ms hl h0 hn hy;refine fU iC hp (λj:Nat=>j<=a.names.length/\a.names.take j=b.names.take j) (λj=>[(5,.c (.d (.int .i64 j))),(3,.c (.d (.rp b.enc 0))),(2,.c (.d (.rp a.enc 0)))]) (λ_=>[]) (λj=>a.names.length-j) 0 ms ⟨by simp,by simp⟩ h0 λj ⟨h1,h2⟩=>?_;unfold Mk;simp;apply gT<;>intro h
  ·have hj:j<a.names.length:=by simpa using h
   have hj2:j<b.names.length:=by omega
   simp[aA hj,aA hj2];by_cases q:a.names[j]=b.names[j]
   ·simp[q];refine⟨by decide,?_⟩;refine fJ (j+1) [] ⟨by omega,zmW hj hj2 h2 q⟩ (by omega) ?_;simp;exact wI
   ·simp[q];exact⟨by decide,hn (λz=>q (by simp[z])) _ _ _ (by simp)⟩
  ·have hj:j=a.names.length:=by simp at h;omega
   subst hj;rw[bG,hl,bG]at h2;exact hy h2 _ _ _ (by simp) (by simp)
 unfold Uv;by_cases q1:a.kind=b.kind;rotate_left
 ·simp[q1]at e;simp[q1,e]
 by_cases q2:a.name=b.name;rotate_left
 ·simp[q2]at e;simp[q1,q2,e]
 by_cases q3:a.names.length=b.names.length;rotate_left
 ·have:¬a.names=b.names:=λz=>q3 (by rw[z]);have q3':¬(a.names.length:Int)=b.names.length:=by omega
  simp[this]at e;simp[q1,q2,q3,q3',e]
 by_cases q4:a.kids.length=b.kids.length;rotate_left
 ·have:lJ ky a.kids b.kids=false:=by
   cases h:lJ ky a.kids b.kids with
   |false=>rfl
   |true=>exact absurd (DF h) q4
  have q4':¬(a.kids.length:Int)=b.kids.length:=by omega
  simp[this]at e;simp[q1,q2,q3,q4,q4',e]
 simp[q1,q2,q3,q4];refine k1 q3 (ms:=[]) (by simp) (λhn T M n t4=>?_) (λhy T M n t2 t3=>?_)
 ·simp[hn]at e;simp[t4,e]
 ·simp[q1,q2,hy]at e;simp;refine k2 q4 (ms:=[]) (by simp[t2,t3]) (λhn T M n t4=>?_) (λhy T M n=>?_)
  ·rw[hn]at e;simp[t4,e]
  ·rw[hy]at e;simp[e]
mutual
theorem EX:∀(a b:gq),gu Pg 77 [.agg a.enc,.agg b.enc] (.one (.bool (ky a b)))
|.mk k n s l,b=>zmX _ b λx hx y=>Vl l x hx y
theorem Vl:∀(l:List gq) (x:gq),x∈l->∀y,gu Pg 77 [.agg x.enc,.agg y.enc] (.one (.bool (ky x y)))
|c::l,x,h,y=>by
 cases aN.1 h with
 |inl e=>rw[e];exact EX c y
 |inr e=>exact Vl l x e y
end
theorem NH(s:fI):∀l,jg s l<=l.length
|[]=>aQ _
|n::l=>by have:=NH s l;unfold jg;split<;>simp<;>omega
abbrev uF:Blk:=.box [.d (.int .i64 0),.d (.str (bs [])),.d (.sl true 1 []),.d (.sl true 4 [])]
abbrev x8(ns:List fI)(ts:List gq)(i:Nat):List (Nat × AV):=[(7,.c (.d (.int .i64 i))),(6,.c (.ptr 1 0)),(4,.c (.ptr 0 0)),(1,.c (.d (.sl false 4 (ts.map gq.enc)))),(0,.c (.d (.sl false 1 (encS ns))))]
abbrev uf(ns:List fI)(ks:List gq):List Blk:=[uF,.box [.d (.int .i64 5),.d (.str (bs [])),.msl 1 2 0 ns.length,.msl 4 3 0 ks.length],.arr 1 ((encS ns).map (·.map .d)),.arr 4 ((ks.map gq.enc).map (·.map .d))]
theorem znO{c:Ctx}(hp:c.pure)(ns:List fI)(ts:List gq)(i:Nat)(hi:i<ns.length)(ok:Bool)(ms:List fI)(ks:List gq)(hms:ms.length<=100){Q:Exit->St->Prop}{S:St}{g}{l:List Nat}
  (h0:iM l S ((9,.c (.d (.int .i64 0)))::(8,.c (.d (.bool ok)))::x8 ns ts i) (uf ms ks))
  (hQ:∀T,Abs.look T 9=.c (.d (.int .i64 (jg ns[i] ms)))->Abs.look T 8=.c (.d (.bool ok))->Abs.look T 7=.c (.d (.int .i64 i))->Abs.look T 6=.c (.ptr 1 0)->Abs.look T 4=.c (.ptr 0 0)->Abs.look T 1=.c (.d (.sl false 4 (ts.map gq.enc)))->Abs.look T 0=.c (.d (.sl false 1 (encS ns)))->Q (.exit 2) ⟨T,hpOf (uf ms ks),4⟩):lU Pg c Mo Q g S:=by
 refine fU iC hp (λk:Nat=>k<=ms.length/\k+jg ns[i] (ms.drop k)=jg ns[i] ms) (λk=>(9,.c (.d (.int .i64 k)))::(8,.c (.d (.bool ok)))::x8 ns ts i) (λ_=>uf ms ks) (λk=>ms.length-k) 0 l ⟨by simp,by simp⟩ h0 λk ⟨h1,h2⟩=>?_;unfold Mo;simp;apply gT<;>intro h
 ·have hk:k<ms.length:=by simpa using h
  rw[aF hk,jg]at h2;simp[aA hk,aA hi];refine⟨hk,by decide,?_⟩;apply gT<;>intro h
  ·rw[aC (by unfold ET;exact h)]at h2;refine fJ (k+1) [0,1,2,3] ⟨by omega,by omega⟩ (by omega) ?_;simp;exact wI
  ·rw[aB (by unfold ET;simpa using h)]at h2;exact hQ _ (by simp;omega) (by simp) (by simp) (by simp) (by simp) (by simp) (by simp)
 ·have hk:k=ms.length:=by simp at h;omega
  subst hk;rw[aO,jg]at h2;simp;exact⟨by decide,hQ _ (by simp;omega) (by simp) (by simp) (by simp) (by simp) (by simp) (by simp)⟩
theorem NI(ms:List fI)(ks:List gq):gq.enc (.mk 5 (bs []) ms ks)=[.int .i64 5,.str (bs []),.sl false 1 (encS ms),.sl false 4 (ks.map gq.enc)]:=by rw[gq.enc_eq];try rfl
theorem vW(ks:List gq):take ks.length (List.map ((λx=>List.map AC.d x)∘gq.enc) ks)=List.map ((λx=>List.map AC.d x)∘gq.enc) ks:=aD (by simp)
theorem znP(ms:List fI):take ms.length (List.map (λx=>List.map AC.d x) (encS ms))=List.map (λx=>List.map AC.d x) (encS ms):=aD (by simp)
theorem mid{α:Type}{l:List α}{k n:Nat}(hn:n=l.length)(hk:k<=l.length)(x:α):take (k+1) (take k (take k l)++[x])++take (n-k) (drop k l)=take k l++x::drop k l:=by
 subst hn;rw[aD (l:=take k (take k l)++[x]) (by simp;omega),aD (l:=drop k l) (by simp),take_take,eO,dA];rfl
theorem JG{ks:List gq}{L:List (List AC)}(h:∀x,x∈L->x∈List.map ((λx=>List.map AC.d x)∘gq.enc) ks)(n:Nat):∀x,x∈L->AC.lts n x=true:=λx hx=>by
 obtain⟨t,_,rfl⟩:=aa.1 (h x hx);simp
theorem NJ(ns:List fI)(ts:List gq):gu Pg 162 [.one (.sl false 1 (encS ns)),.one (.sl false 4 (ts.map gq.enc))] (.tup [.agg (yg ns ts).1.enc,.one (.bool (yg ns ts).2)]):=by
 refine ziV (by simp) λo c hN hp=>?_;have hb:gq.enc (.mk 5 (bs []) [] [])=[.int .i64 5,.str (bs []),.sl false 1 [],.sl false 4 []]:=rfl;obtain⟨R,hR⟩:∃R,yg ns ts=R:=⟨_,rfl⟩
 rw[hR];unfold yg at hR;unfold Uz;by_cases h1:ns.length=ts.length;rotate_left
 ·have h1':¬(ns.length:Int)=ts.length:=by omega
  rw[aC (.inl h1)]at hR;subst hR;simp[h1,h1',hb]
 by_cases h2:16<ns.length
 ·have h2':(16:Int)<ns.length:=by omega
  have h2'':(16:Int)<ts.length:=by omega
  rw[aC (.inr h2)]at hR;subst hR;simp[h1,h2',h2'',hb]
 have h2':¬(16:Int)<ns.length:=by omega
 have h2'':¬(16:Int)<ts.length:=by omega
 rw[aB (by omega)]at hR;simp[h1,h2',h2''];refine fo [.c 1 2,.c 1 3] ?_;simp;refine fU iC hp (λx:Nat × List fI × List gq=>x.1<=ns.length/\x.2.1.length=x.2.2.length/\x.2.1.length<=x.1/\kK (ns.drop x.1) (ts.drop x.1) x.2.1 x.2.2=kK ns ts [] []) (λx=>x8 ns ts x.1) (λx=>uf x.2.1 x.2.2) (λx=>ns.length-x.1) (0,[],[]) [0,1,2,3] ⟨by simp,rfl,by simp,by simp⟩ (by simp[encS]) λ⟨i,ms,ks⟩ ⟨i1,i2,i3,i4⟩=>?_;unfold Uy;simp only at i1 i2 i3 i4;simp;apply gT<;>intro h
 ·have hi:i<ns.length:=by simpa using h
  have ht:i<ts.length:=by omega
  rw[aF hi,aF ht,kK]at i4;simp[aA hi];refine gp (Iw _) ?_;simp;refine znO hp ns ts i hi (nG ns[i]) ms ks (by omega) (l:=[0,1,2,3]) (by simp) λT t9 t8 t7 t6 t4 t1 t0=>?_;have hpl:=NH ns[i] ms;generalize jg ns[i] ms=k at*
  simp[t9,t8,t7,t6];by_cases hn:nG ns[i]=true;rotate_left
  ·rw[aC (.inl (by simpa using hn))]at i4;rw[<-i4]at hR;subst hR;have z1:take ms.length (encS ms)=encS ms:=aD (by simp);have z2:take ks.length (List.map gq.enc ks)=List.map gq.enc ks:=aD (by simp);simp[hn,t4];refine⟨by decide,?_⟩;simp[z1,z2,NI]
  have hks:k<=ks.length:=by omega
  have hmin:min k ms.length=k:=by omega
  have hmin2:min k ks.length=k:=by omega
  by_cases hk:k<ms.length
  ·by_cases he:ms[k]=ns[i]
   ·rw[aC (.inr (by rw[aA hk,he]))]at i4;rw[<-i4]at hR;subst hR;have z1:take ms.length (encS ms)=encS ms:=aD (by simp);have z2:take ks.length (List.map gq.enc ks)=List.map gq.enc ks:=aD (by simp);simp[hn,t4,t0,hk,aA hk,aA hi,he];refine⟨by decide,?_⟩;simp[z1,z2,NI]
   ·rw[aB (by rw[aA hk];simp[hn,he])]at i4;simp[hn,t4,t0,t1,hk,aA hk,aA hi,aA ht,he,hmin,hmin2,hpl,hks];refine⟨by decide,by omega,by omega,by omega,by omega,by omega,by omega,?_⟩;refine fJ (i+1,ms.take k++ns[i]::ms.drop k,ks.take k++ts[i]::ks.drop k) [0,1,6,9] ⟨by simp only;omega,by simp;omega,by simp;omega,i4⟩ (by simp only;omega) ?_;simp[t0,t1,t4,t6,t7];refine⟨wI,⟨by omega,by omega⟩,?_,mid (by simp) (by simp;omega) _,JG (λx hx=>bi hx) 4,JG (λx hx=>dQ hx) 4⟩;rw[mid (l:=List.map (λx=>List.map AC.d x) (encS ms)) (by simp) (by simp;omega)];simp[encS,map_take,map_drop]
  ·have hk2:k=ms.length:=by omega
   rw[aB (by rw[aS (by omega)];simp[hn])]at i4;simp[hn,t4,t0,t1,hk,aA hi,aA ht,hmin,hmin2,hpl,hks];refine⟨by decide,by omega,by omega,by omega,by omega,by omega,by omega,?_⟩;refine fJ (i+1,ms.take k++ns[i]::ms.drop k,ks.take k++ts[i]::ks.drop k) [0,1,6,9] ⟨by simp only;omega,by simp;omega,by simp;omega,i4⟩ (by simp only;omega) ?_;simp[t0,t1,t4,t6,t7];refine⟨wI,⟨by omega,by omega⟩,?_,mid (by simp) (by simp;omega) _,JG (λx hx=>bi hx) 4,JG (λx hx=>dQ hx) 4⟩;rw[mid (l:=List.map (λx=>List.map AC.d x) (encS ms)) (by simp) (by simp;omega)];simp[encS,map_take,map_drop]
 ·have hi:i=ns.length:=by simp at h;omega
  subst hi;rw[aO,kK]at i4;rotate_left
  ·intros;contradiction
  rw[<-i4]at hR;subst hR;have z1:take ms.length (List.map (λx=>List.map AC.d x) (encS ms))=List.map (λx=>List.map AC.d x) (encS ms):=znP ms;have z3:take ms.length (encS ms)=encS ms:=aD (by simp);have z4:take ks.length (List.map gq.enc ks)=List.map gq.enc ks:=aD (by simp);simp[z1,vW,NI,z3,z4]
theorem EY(ks:List gq):gq.enc (.mk 7 (bs []) [] ks)=[.int .i64 7,.str (bs []),.sl false 1 [],.sl false 4 (ks.map gq.enc)]:=by rw[gq.enc_eq];try rfl
mutual
theorem NK:∀t:gq,ky t t=true
|.mk k n s l=>by rw[ky];simp[gq.kind,gq.name,gq.names,gq.kids,Vm l]
theorem Vm:∀l:List gq,qX l l=true
|[]=>rfl
|t::l=>by rw[qX,NK t,Vm l];try rfl
end
abbrev oQ(l:List gq):Blk:=.arr 4 ((l.map gq.enc).map (·.map .d))
abbrev Af(all ks:List gq):List Blk:=[uF,oQ all,.box [.d (.int .i64 7),.d (.str (bs [])),.d (.sl true 1 []),.msl 4 3 0 ks.length],oQ ks]
abbrev vX(all:List gq)(tag:Nat):List (Nat × AV):=[(7,.c (.d (.int .i64 tag))),(6,.c (.ptr 2 0)),(4,.c (.msl 4 1 0 all.length)),(2,.c (.ptr 0 0))]
theorem NL(tag:Int):∀(l:List gq) (had:Bool) (ks:List gq),(jh tag l had ks).1.2.length<=ks.length+l.length
|[],had,ks=>by simp[jh]
| x::l,had,ks=>by
 have h:(if had=true then ks else ks++[x]).length<=ks.length+1:=by split<;>simp
 rw[jh];by_cases h0:x.kind=0
 ·rw[aC h0];simp
 rw[aB h0];by_cases h1:iN x≠tag
 ·rw[aC h1];have:=NL tag l had ks;rw[length_cons];omega
 rw[aB h1];simp only;generalize (if had=true then ks else ks++[x])=k2 at*
 split
 ·have:=NL tag l true k2;rw[length_cons];omega
 ·rw[length_cons];simp only;omega
theorem zn0{c:Ctx}(hp:c.pure)(all:List gq)(hall:all.length<=1000000)(tag:Nat)(htag:tag<6)(ks:List gq)(hks:ks.length<=10000000)(F0:(Bool × List gq) × Bool)(hF:jh tag all false ks=F0){Q:Exit->St->Prop}{S:St}{g}{ms:List Nat}
  (h0:iM ms S ((9,.c (.d (.int .i64 0)))::(8,.c (.d (.bool false)))::vX all tag) (Af all ks))
  (hN:F0.2=false->∀T M n,Abs.look T 2=.c (.ptr 0 0)->Abs.look T 3=.c (.d (.bool false))->M 0=.box [.d (.int .i64 7),.d (.str (bs [])),.d (.sl true 1 []),.msl 4 3 0 F0.1.2.length]->M 3=oQ F0.1.2->Q .ret ⟨T,M,n⟩)
  (hQ:F0.2=true->∀T,Abs.look T 7=.c (.d (.int .i64 tag))->Abs.look T 6=.c (.ptr 2 0)->Abs.look T 4=.c (.msl 4 1 0 all.length)->Abs.look T 2=.c (.ptr 0 0)->Q (.exit 4) ⟨T,hpOf (Af all F0.1.2),4⟩):lU Pg c Mq Q g S:=by
 refine fU iC hp (λx:Nat × Bool × List gq=>x.1<=all.length/\x.2.2.length<=ks.length+x.1/\(x.2.1=true->x.2.2≠[])/\jh tag (all.drop x.1) x.2.1 x.2.2=F0) (λx=>(9,.c (.d (.int .i64 x.1)))::(8,.c (.d (.bool x.2.1)))::vX all tag) (λx=>Af all x.2.2) (λx=>all.length-x.1) (0,false,ks) ms ⟨by simp,by simp,by simp,by simpa using hF⟩ h0 λ⟨i,had,l⟩ ⟨h1,h2,h3,h4⟩=>?_;unfold Mq;simp only at h1 h2 h3 h4;simp;apply gT<;>intro h
 ·have hi:i<all.length:=by simpa using h
  rw[aF hi,jh]at h4;obtain⟨x,hx⟩:∃x,all[i]=x:=⟨_,rfl⟩
  have hg:all[i]?=some x:=by rw[aA hi,hx]
  rw[hx]at h4;simp[hi,hx,hg];by_cases k0:x.kind=0
  ·rw[aC k0]at h4;subst h4;simp[k0];exact hN rfl _ _ _ (by simp) (by simp) (by simp) (by simp)
  rw[aB k0]at h4;simp[k0,hi,hx,hg];refine gp (DD x) ?_;by_cases kt:iN x=tag;rotate_left
  ·rw[aC kt]at h4;simp[kt];refine fJ (i+1,had,l) [0,1,2,3] ⟨by simp only;omega,by simp only;omega,h3,h4⟩ (by simp only;omega) ?_;simp;exact wI
  rw[aB (λz=>z kt)]at h4;cases had with
  |false=>
   simp only[ai,if_false,getLastD_concat]at h4;have hw:IntKind.i64.wrap ((l.length:Int)+1-1)=(l.length:Int):=by rw[wI];omega
   have z:take l.length (List.map ((λx=>List.map AC.d x)∘gq.enc) l)=List.map ((λx=>List.map AC.d x)∘gq.enc) l:=vW l;have hwl:IntKind.i64.wrap (l.length:Int)=(l.length:Int):=wI;have g:(List.map ((λx=>List.map AC.d x)∘gq.enc) l++[List.map AC.d x.enc])[l.length]?=some (List.map AC.d x.enc):=by simp
   simp[kt,hi,hx,hg,hwl,z,g];refine⟨by omega,by decide,by omega,?_⟩;refine gp (EX _ _) ?_;have hs:=NK x;rw[aC hs]at h4;simp[hs];refine⟨by decide,?_⟩;refine fJ (i+1,true,l++[x]) [0,1,2,4] ⟨by simp only;omega,by simp;omega,by simp,h4⟩ (by simp only;omega) ?_;simp;exact wI
  | true=>
   have hne:=h3 rfl;simp only[if_true]at h4;have hlp:0<l.length:=List.length_pos_iff.2 hne;have hw:IntKind.i64.wrap ((l.length:Int)-1)=((l.length-1:Nat):Int):=by rw[wI];omega
   have hlast:l.getLastD noT=l[l.length-1]:=by
    rw[getLastD_eq_getLast?,getLast?_eq_getElem?,aA (by omega)];try rfl
   rw[hlast]at h4;have hlt:l.length-1<l.length:=by omega
   simp[kt,hi,hx,hg,hw,aA hlt,hlt];refine gp (EX _ _) ?_;by_cases hs:ky x l[l.length-1]=true
   ·rw[aC hs]at h4;simp[hs];refine⟨by decide,?_⟩;refine fJ (i+1,true,l) [0,1,2,3] ⟨by simp only;omega,by simp only;omega,λ_=>hne,h4⟩ (by simp only;omega) ?_;simp;exact wI
   ·rw[aB hs]at h4;subst h4;simp[hs];refine⟨by decide,?_⟩;exact hN rfl _ _ _ (by simp) (by simp) (by simp) (by simp)
 ·have hi:i=all.length:=by simp at h;omega
  subst hi;rw[aO,jh]at h4;subst h4;exact hQ rfl _ (by simp) (by simp) (by simp) (by simp)
def Bl(i:Nat):List Int:=[0,1,2,3,4,5].drop i
theorem Vn{i:Nat}(h:i<6):Bl i=(i:Int)::Bl (i+1):=by
 have:∀i:Fin 6,Bl i.val=((i.val:Nat):Int)::Bl (i.val+1):=by decide
 exact this ⟨i,h⟩
theorem NM(kids:List gq)(hk:(kids.flatMap iy).length<=1000000)(hkl:kids.length<=1000000):gu Pg 163 [.one (.sl false 4 (kids.map gq.enc))] (.tup [.agg (zV kids).1.enc,.one (.bool (zV kids).2)]):=by
 refine zjZ (by simp) λo c hN hp=>?_;obtain⟨R,hR⟩:∃R,zV kids=R:=⟨_,rfl⟩
 rw[hR];unfold zV at hR;simp only at hR;obtain⟨all,hal⟩:∃all,kids.flatMap iy=all:=⟨_,rfl⟩
 rw[hal]at hR hk;unfold VC;simp;refine fo [.t 4] ?_;simp;refine fU iC hp (λx:Nat × List gq=>x.1<=kids.length/\x.2++(kids.drop x.1).flatMap iy=all) (λx=>[(5,.c (.d (.int .i64 x.1))),(4,.c (.msl 4 1 0 x.2.length)),(2,.c (.ptr 0 0)),(0,.c (.d (.sl false 4 (kids.map gq.enc))))]) (λx=>[uF,oQ x.2]) (λx=>kids.length-x.1) (0,[]) [0,1] ⟨by simp,by simpa using hal⟩ (by simp) λ⟨j,l⟩ ⟨h1,h2⟩=>?_;unfold VA;simp only at h1 h2;simp;apply gT<;>intro h
 ·have hj:j<kids.length:=by simpa using h
  obtain⟨x,hx⟩:∃x,kids[j]=x:=⟨_,rfl⟩
  have hg:kids[j]?=some x:=by rw[aA hj,hx]
  rw[aF hj,hx,flatMap_cons,<-dA]at h2;have hll:=dP length h2;rw[aX,aX]at hll;by_cases k7:x.kind=7
  ·have hm:iy x=x.kids:=by unfold iy;rw[aC k7]
   rw[hm]at h2 hll;simp[hj,hx,hg,k7];refine⟨by omega,?_⟩;refine fJ (j+1,l++x.kids) [0,2] ⟨by simp only;omega,h2⟩ (by simp only;omega) ?_;simp;exact⟨wI,vW l⟩
  ·have hm:iy x=[x]:=by unfold iy;rw[aB k7]
   rw[hm]at h2 hll;simp only[length_singleton]at hll;simp[hj,hx,hg,k7];refine⟨by omega,?_⟩;refine fJ (j+1,l++[x]) [0,2] ⟨by simp only;omega,h2⟩ (by simp only;omega) ?_;simp;exact⟨wI,vW l⟩
 ·have hj:j=kids.length:=by simp at h;omega
  subst hj;rw[aO,flatMap_nil,bN]at h2;subst h2;simp;refine fo [.c 2 3] ?_;simp;refine fU iC hp (λx:Nat × List gq=>x.1<=6/\x.2.length<=x.1*l.length/\qY l (Bl x.1) x.2=qY l [0,1,2,3,4,5] []) (λx=>vX l x.1) (λx=>Af l x.2) (λx=>6-x.1) (0,[]) [0,1,2,3] ⟨by simp,by simp,rfl⟩ (by simp) λ⟨t,ks⟩ ⟨i1,i2,i3⟩=>?_;unfold VB;simp only at i1 i2 i3;simp;have hmul:t*l.length<=6*1000000:=Nat.mul_le_mul i1 hk;have htl:=NL t l false ks;apply gT<;>intro h
  ·have ht:t<6:=by simp at h;omega
   rw[Vn ht,qY]at i3;refine zn0 hp l hk t ht ks (by omega) _ rfl (ms:=[0,1,2,3]) (by simp) (λhf T M n t2 t3 m0 m3=>?_) (λhf T t7 t6 t4 t2=>?_)
   ·rw[aB (by rw[hf];simp)]at i3;rw[<-i3]at hR;simp at hR;subst hR;simp[t2,t3,m0,m3,EY];exact aD (by simp)
   ·rw[aC hf]at i3;simp[t7];refine fJ (t+1,(jh t l false ks).1.2) [0,1,2,3] ⟨by simp only;omega,by simp only;rw[bC];omega,i3⟩ (by simp only;omega) ?_;simp[t7,t6,t4,t2];exact wI
  ·have ht:t=6:=by simp at h;omega
   subst ht;rw[show Bl 6=[]from rfl,qY]at i3;rw[<-i3]at hR;simp only[if_true]at hR;have z4:take ks.length (List.map gq.enc ks)=List.map gq.enc ks:=aD (by simp)
   match ks,i2,hR,z4 with
   |[],i2,hR,z4=>
    simp at hR;subst hR;simp;exact⟨by decide,by rw[EY];rfl⟩
   |[x],i2,hR,z4=>
    simp at hR;subst hR;simp;rw[gq.enc_eq];try rfl
   |x::y::l2,i2,hR,z4=>
    simp at hR;subst hR;have h1:¬((l2.length:Int)+1+1=1):=by omega
    have h2:¬(l2.length+1+1=1):=by omega
    have h3:(0:Int)<(l2.length:Int)+1+1:=by omega
    simp[h1,h2,h3];exact⟨by decide,by rw[EY,aD (by simp)];rfl⟩
mutual
def lC:gq->Prop
|.mk _ _ _ l=>l.length<=200/\qp l
def qp:List gq->Prop
|[]=>True
|t::l=>lC t/\qp l
end
mutual
theorem Ff:∀(t:gq) (m:Int),m<=201->nX t m<m->lC t
|.mk k n s l,m,h1,h2=>by
 rw[nX]at h2;have:=Vo l m 1 h1 (by omega) h2;rw[lC];exact⟨by omega,this.2⟩
theorem Vo:∀(l:List gq) (m n:Int),m<=201->1<=n->qK l m n<m->n+l.length<=qK l m n/\qp l
|[],m,n,_,_,h=>by rw[qK]at*;exact⟨by simp,trivial⟩
| t::l,m,n,h1,h2,h3=>by
 have hle:=JE t (m-n);rw[qK]at h3⊢;split
 ·rename_i q;rw[aC q]at h3;have i:=Vo l m (n+nX t (m-n)) h1 (by omega) h3;have hle2:=JF l m (n+nX t (m-n)) (by omega);rw[length_cons];exact⟨by omega,Ff t (m-n) (by omega) (by omega),i.2⟩
 ·rename_i q;rw[aB q]at h3;omega
end
theorem JH:∀l:List gq,qp l↔∀x,x∈l->lC x
|[]=>by simp[qp]
|t::l=>by simp[qp,JH l]
theorem NN(tag:Int):∀(l:List gq) (had:Bool) (ks:List gq),(jh tag l had ks).1.2.length<=ks.length+(if had=true then 0 else 1)
|[],had,ks=>by simp[jh]
| x::l,had,ks=>by
 have h:(if had=true then ks else ks++[x]).length<=ks.length+(if had=true then 0 else 1):=by cases had<;>simp
 rw[jh];by_cases h0:x.kind=0
 ·rw[aC h0];simp
 rw[aB h0];by_cases h1:iN x≠tag
 ·rw[aC h1];exact NN tag l had ks
 rw[aB h1];simp only;generalize (if had=true then ks else ks++[x])=k2 at*
 split
 ·have:=NN tag l true k2;simp only[if_true]at this;omega
 ·exact h
theorem NP(tag:Int):∀(l:List gq) (had:Bool) (ks:List gq) (y:gq),y∈(jh tag l had ks).1.2->y∈ks\/(y∈l/\iN y=tag)
|[],had,ks,y,h=>by simp[jh]at h;exact .inl h
| x::l,had,ks,y,h=>by
 have h2:∀z,z∈(if had=true then ks else ks++[x])->z∈ks\/z=x:=λz hz=>by cases had<;>simp at hz<;>simp[hz]
 rw[jh]at h;by_cases h0:x.kind=0
 ·rw[aC h0]at h;exact .inl h
 rw[aB h0]at h;by_cases h1:iN x≠tag
 ·rw[aC h1]at h;rcases NP tag l had ks y h with q|⟨q,r⟩
  ·exact .inl q
  ·exact .inr ⟨by simp[q],r⟩
 rw[aB h1]at h;have hx:iN x=tag:=bE h1;simp only at h;generalize (if had=true then ks else ks++[x])=k2 at*
 have fin:y∈k2->y∈ks\/(y∈x::l/\iN y=tag):=λhy=>by
  rcases h2 y hy with q|rfl
  ·exact .inl q
  ·exact .inr ⟨by simp,hx⟩
 split at h
 ·rcases NP tag l true k2 y h with q|⟨q,r⟩
  ·exact fin q
  ·exact .inr ⟨by simp[q],r⟩
 ·exact fin h
theorem NQ(all:List gq):∀(l:List Int) (ks:List gq),(qY all l ks).1.length<=ks.length+l.length
|[],ks=>by simp[qY]
| t::l,ks=>by
 have h1:=NN t all false ks;simp only[ai,if_false]at h1;rw[qY,length_cons];split
 ·have:=NQ all l (jh t all false ks).1.2;omega
 ·simp only;omega
theorem JI(all:List gq):∀(l:List Int) (ks:List gq) (y:gq),y∈(qY all l ks).1->y∈ks\/(y∈all/\iN y∈l)
|[],ks,y,h=>by simp[qY]at h;exact .inl h
| t::l,ks,y,h=>by
 rw[qY]at h;have fin:y∈(jh t all false ks).1.2->y∈ks\/(y∈all/\iN y∈t::l):=λhy=>by
  rcases NP t all false ks y hy with q|⟨q,r⟩
  ·exact .inl q
  ·exact .inr ⟨q,by simp[r]⟩
 split at h
 ·rcases JI all l _ y h with q|⟨q,r⟩
  ·exact fin q
  ·exact .inr ⟨q,by simp[r]⟩
 ·exact fin h
theorem zlM(t:gq):(iy (lh t).1).length<=6:=by
 have one:∀x:gq,x.kind≠7->(iy x).length<=6:=λx h=>by unfold iy;rw[aB h];simp
 cases t with
 |mk k n s l=>
 rw[lh];split
 ·split
  ·unfold oO;split
   ·refine one _ ?_;unfold yg;split<;>simp[gq.kind]
   split
   ·exact one _ (by simp[gq.kind])
   ·unfold zV;have hl:=NQ ((kV l).1.flatMap iy) [0,1,2,3,4,5] [];have hm:=JI ((kV l).1.flatMap iy) [0,1,2,3,4,5] [];simp only;generalize qY ((kV l).1.flatMap iy) [0,1,2,3,4,5] []=r at*
    have seven:∀l:List gq,l.length<=6->(iy (.mk 7 (bs []) [] l)).length<=6:=λl h=>by unfold iy;exact h
    split
    ·split
     ·rename_i x e;have:=hm x (by rw[e];simp);refine one _ λh7=>?_;have h7:x.kind=7:=h7;have hb:iN x= -1:=by unfold iN;rw[aC (by omega)]
      rw[hb]at this;simp at this
     ·rename_i e;exact seven _ (by simpa using hl)
    ·exact seven _ (by simpa using hl)
  ·exact one _ (by simp[noT,gq.kind])
 ·split
  ·refine one _ ?_;show k≠7;omega
  ·exact one _ (by simp[noT,gq.kind])
theorem Vp:∀l:List gq,(kV l).1.length<=l.length
|[]=>by simp[kV]
|t::l=>by
 have:=Vp l;rw[kV];split<;>simp;omega
theorem Vq:∀l:List gq,((kV l).1.flatMap iy).length<=6*l.length
|[]=>by simp[kV]
|t::l=>by
 have h1:=Vq l;have h2:=zlM t;rw[kV];split
 ·rw[flatMap_cons,aX,length_cons];omega
 ·simp
theorem zmN(t:gq):lh t=if 5<=t.kind/\t.kind<=7 then(if(kV t.kids).2=true then oO t.kind t.names (kV t.kids).1 else(noT,false))else if 0<=t.kind/\t.kind<=4 then(bT t.kind,true)else(noT,false):=by
 cases t;rw[lh];try rfl
def qO(a:List gq)(l:List gq):List gq × Bool:=if(kV l).2=true then(a++(kV l).1,true)else([],false)
theorem zlN(a:List gq)(t:gq)(l:List gq):qO a (t::l)=if(lh t).2=true then qO (a++[(lh t).1]) l else([],false):=by
 unfold qO;rw[kV];by_cases h:(lh t).2=true
 ·rw[aC h,aC h];by_cases h2:(kV l).2=true
  ·simp[h2]
  ·simp[h2]
 ·rw[aB h,aB h];simp
@[simp] theorem gq.er_map(t:gq):t.enc.map D.er=t.enc:=by rw[gq.enc_eq];try rfl
theorem vY(k:Int):(bT k).enc=[.int .i64 k,.str (bs []),.sl false 1 [],.sl false 4 []]:=by rw[gq.enc_eq];try rfl
theorem nQ:noT.enc=[.int .i64 0,.str (bs []),.sl false 1 [],.sl false 4 []]:=rfl
abbrev yo(t:gq)(j n:Nat):List (Nat × AV):=[(5,.c (.d (.int .i64 j))),(4,.c (.msl 4 1 0 n)),(2,.c (.ptr 0 0)),(1,.c (.d (.rp t.enc 0)))]
theorem DI{c:Ctx}(hp:c.pure)(t:gq)(hl:t.kids.length<=200)(ih:∀e,e∈t.kids->gu Pg 130 [.agg e.enc] (.tup [.agg (lh e).1.enc,.one (.bool (lh e).2)])){Q:Exit->St->Prop}{S:St}{g}{ms:List Nat}
  (h0:iM ms S (yo t 0 0) [uF,oQ []])
  (hN:(kV t.kids).2=false->∀T M n,Abs.look T 2=.c (.ptr 0 0)->Abs.look T 3=.c (.d (.bool false))->M 0=uF->Q .ret ⟨T,M,n⟩)
  (hQ:(kV t.kids).2=true->∀T,Abs.look T 4=.c (.msl 4 1 0 (kV t.kids).1.length)->Abs.look T 2=.c (.ptr 0 0)->Abs.look T 1=.c (.d (.rp t.enc 0))->Q (.exit 1) ⟨T,hpOf [uF,oQ (kV t.kids).1],2⟩):lU Pg c Mm Q g S:=by
 have hA:qO [] t.kids=if(kV t.kids).2=true then((kV t.kids).1,true)else([],false):=rfl;have hN:(qO [] t.kids).2=false->∀T M n,Abs.look T 2=.c (.ptr 0 0)->Abs.look T 3=.c (.d (.bool false))->M 0=uF->Q .ret ⟨T,M,n⟩:=λh=>hN (by
  rw[hA]at h;cases e:(kV t.kids).2 with
  |false=>rfl
  |true=>rw[aC e]at h;cases h)
 have hQ:(qO [] t.kids).2=true->∀T,Abs.look T 4=.c (.msl 4 1 0 (qO [] t.kids).1.length)->Abs.look T 2=.c (.ptr 0 0)->Abs.look T 1=.c (.d (.rp t.enc 0))->Q (.exit 1) ⟨T,hpOf [uF,oQ (qO [] t.kids).1],2⟩:=λh=>by
  rw[hA]at h⊢;cases e:(kV t.kids).2 with
  |false=>rw[e]at h;cases h
  |true=>rw[aC rfl];exact hQ e
 obtain⟨F0,hF⟩:∃F0,qO [] t.kids=F0:=⟨_,rfl⟩
 rw[hF]at hN hQ;refine fU iC hp (λx:Nat × List gq=>x.1<=t.kids.length/\x.2.length<=x.1/\qO x.2 (t.kids.drop x.1)=F0) (λx=>yo t x.1 x.2.length) (λx=>[uF,oQ x.2]) (λx=>t.kids.length-x.1) (0,[]) ms ⟨by simp,by simp,by simpa using hF⟩ h0 λ⟨j,a⟩ ⟨h1,h2,h3⟩=>?_;unfold Mm;simp only at h1 h2 h3;simp;apply gT<;>intro h
 ·have hj:j<t.kids.length:=by simpa using h
  rw[aF hj,zlN]at h3;obtain⟨x,hx⟩:∃x,t.kids[j]=x:=⟨_,rfl⟩
  have hm:=aP hj;rw[hx]at h3 hm;simp[hj,hx];refine gp (ih x hm) ?_;simp;by_cases q:(lh x).2=true
  ·rw[aC q]at h3;simp[q];refine⟨by omega,?_⟩;refine fJ (j+1,a++[(lh x).1]) [0,3] ⟨by simp only;omega,by simp;omega,h3⟩ (by simp only;omega) ?_;simp;exact⟨wI,vW a⟩
  ·rw[aB q]at h3;subst h3;simp[q];exact hN rfl _ _ _ (by simp) (by simp) (by simp)
 ·have hj:j=t.kids.length:=by simp at h;omega
  subst hj;rw[aO]at h3;have e:qO a []=(a,true):=by unfold qO;simp[kV]
  rw[e]at h3;subst h3;exact hQ rfl _ (by simp) (by simp) (by simp)
theorem NR(t:gq)(hl:t.kids.length<=200)(ih:∀e,e∈t.kids->gu Pg 130 [.agg e.enc] (.tup [.agg (lh e).1.enc,.one (.bool (lh e).2)])):
  gu Pg 130 [.agg t.enc] (.tup [.agg (lh t).1.enc,.one (.bool (lh t).2)]):=by
 refine zkQ (by simp) λo c hN hp=>?_;obtain⟨R,hR⟩:∃R,lh t=R:=⟨_,rfl⟩
 rw[hR];rw[zmN]at hR;unfold Ux;by_cases k1:0<=t.kind/\t.kind<=4
 ·rw[aB (by omega),aC k1]at hR;subst hR;have hc:t.kind=0\/t.kind=1\/t.kind=2\/t.kind=3\/t.kind=4:=by omega
  rcases hc with k|k|k|k|k<;>simp[k,vY]
 by_cases k2:5<=t.kind/\t.kind<=7;rotate_left
 ·rw[aB k2,aB k1]at hR;subst hR;have a0:¬t.kind=0:=by omega
  have a1:¬t.kind=1:=by omega
  have a2:¬t.kind=2:=by omega
  have a3:¬t.kind=3:=by omega
  have a4:¬t.kind=4:=by omega
  have a5:¬t.kind=5:=by omega
  have a6:¬t.kind=6:=by omega
  have a7:¬t.kind=7:=by omega
  simp[a0,a1,a2,a3,a4,a5,a6,a7,nQ]
 rw[aC k2]at hR;have hnl:=Vp t.kids;have hnm:=Vq t.kids;have hk:∀K:Int,t.kind=K->(if(kV t.kids).2=true then oO K t.names (kV t.kids).1 else(noT,false))=R:=λK e=>by rw[<-e];exact hR
 have a0:¬t.kind=0:=by omega
 have a1:¬t.kind=1:=by omega
 have a2:¬t.kind=2:=by omega
 have a3:¬t.kind=3:=by omega
 have a4:¬t.kind=4:=by omega
 have hc:t.kind=5\/t.kind=6\/t.kind=7:=by omega
 rcases hc with k|k|k
 ·have hR:=hk 5 k;simp[k];refine fo [.t 4] ?_;simp;refine DI hp t hl ih (ms:=[0,1]) (by simp) (λhf T M n t2 t3 m0=>?_) (λhf T t4 t2 t1=>?_)
  ·rw[aB (by rw[hf];simp)]at hR;subst hR;simp[t2,t3,m0,nQ]
  ·rw[aC hf]at hR;generalize (kV t.kids).1=l at*
   simp[t1,k];refine fe [1] ?_;have z:take l.length (List.map gq.enc l)=List.map gq.enc l:=aD (by simp);simp[iT,t4,t1,vW,z];refine gp (NJ _ _) ?_;rw[show yg t.names l=R by rw[<-hR];rfl];simp[iT,t2]
 ·have hR:=hk 6 k;simp[k];refine fo [.t 4] ?_;simp;refine DI hp t hl ih (ms:=[0,1]) (by simp) (λhf T M n t2 t3 m0=>?_) (λhf T t4 t2 t1=>?_)
  ·rw[aB (by rw[hf];simp)]at hR;subst hR;simp[t2,t3,m0,nQ]
  ·rw[aC hf]at hR;generalize (kV t.kids).1=l at*
   have hR:(gq.mk 6 (bs []) [] l,decide (l.length=2))=R:=by rw[<-hR];try rfl
   subst hR;have z:take l.length (List.map gq.enc l)=List.map gq.enc l:=aD (by simp);have hd:decide ((l.length:Int)=2)=decide (l.length=2):=by
    by_cases h:l.length=2
    ·simp[h]
    ·have h':¬(l.length:Int)=2:=by omega
     simp[h,h']
   simp[t1,k,t4,t2];exact⟨by rw[z,gq.enc_eq];rfl,by omega⟩
 ·have hR:=hk 7 k;simp[k];refine fo [.t 4] ?_;simp;refine DI hp t hl ih (ms:=[0,1]) (by simp) (λhf T M n t2 t3 m0=>?_) (λhf T t4 t2 t1=>?_)
  ·rw[aB (by rw[hf];simp)]at hR;subst hR;simp[t2,t3,m0,nQ]
  ·rw[aC hf]at hR;have hu:=NM (kV t.kids).1 (by omega) (by omega);generalize (kV t.kids).1=l at*
   have z:take l.length (List.map gq.enc l)=List.map gq.enc l:=aD (by simp);simp[t1,k];refine fe [1] ?_;simp[iT,t4,t1,vW,z];refine gp hu ?_;rw[show zV l=R by rw[<-hR];rfl];simp[iT,t2]
mutual
theorem Fg:∀t:gq,lC t->gu Pg 130 [.agg t.enc] (.tup [.agg (lh t).1.enc,.one (.bool (lh t).2)])
|.mk k n s l,h=>by
 rw[lC]at h;exact NR (.mk k n s l) h.1 (λe he=>Fh l h.2 e he)
theorem Fh:∀l:List gq,qp l->∀e,e∈l->gu Pg 130 [.agg e.enc] (.tup [.agg (lh e).1.enc,.one (.bool (lh e).2)])
|[],_,e,h=>by cases h
|d::l,hf,e,h=>by
 rw[qp]at hf;cases h with
 |head=>exact Fg d hf.1
 |tail _ h=>exact Fh l hf.2 e h
end
theorem Ag(t:gq):gu Pg 76 [.agg t.enc] (.tup [.agg (mQ t).1.enc,.one (.int .i64 (mQ t).2)]):=by
 refine zkP (by simp) λo c hN hp=>?_;obtain⟨R,hR⟩:∃R,mQ t=R:=⟨_,rfl⟩
 rw[hR];unfold mQ at hR;unfold Uw;simp;refine gp (Fb t) ?_;by_cases h1:16<oI 17 t
 ·rw[aC (.inl h1)]at hR;subst hR;simp[h1,nQ]
 simp[h1];refine gp (ND t) ?_;by_cases h2:200<nX t 201
 ·rw[aC (.inr h2)]at hR;subst hR;simp[h2,nQ]
 rw[aB (by omega)]at hR;have hf:=Ff t 201 (by omega) (by omega);simp[h2];refine gp (Fg t hf) ?_;by_cases h3:(lh t).2=true
 ·rw[aC h3]at hR;subst hR;simp[h3]
 ·rw[aB h3]at hR;subst hR;simp[h3,nQ]
theorem yt(t:gq):gu Pg 50 [.agg t.enc] (.one (.bool (iH t))):=by
 refine ziW (by simp) λo c hN hp=>?_;unfold VG iH;simp;refine gp (Ag t) ?_;generalize mQ t=R;simp;refine gp (EX _ _) ?_;by_cases h:R.2=0
 ·simp[h]
 ·simp[h]
mutual
theorem DJ:∀(a b:gq),ky a b=true↔a=b
|.mk k n s l,.mk k' n' s' l'=>by
 rw[ky,aG,aG,aG,aI,aI,aI,Fj,gq.mk.injEq];exact Iff.rfl
theorem Fj:∀(a b:List gq),qX a b=true↔a=b
|[],[]=>by simp[qX]
|[],_::_=>by simp[qX]
|_::_,[]=>by simp[qX]
|a::l,b::k=>by
 simp only[qX,aG,dh];rw[DJ a b,Fj l k]
end
mutual
def jG:gq->Prop
|.mk k n s l=>n=bs []/\lW l/\((0<=k/\k<=4/\s=[]/\l=[])\/(k=5/\s.length=l.length/\s.length<=16/\∀x,x∈s->nG x=true)\/(k=6/\s=[]/\l.length=2)\/(k=7/\s=[]/\l.length<=6/\∀x,x∈l->1<=x.kind/\x.kind<=6))
def lW:List gq->Prop
|[]=>True
|t::l=>jG t/\lW l
end
theorem zb:∀l:List gq,lW l↔∀x,x∈l->jG x
|[]=>by simp[lW]
|t::l=>by simp[lW,zb l]
theorem mI(t:gq):jG t↔t.name=bs []/\(∀x,x∈t.kids->jG x)/\((0<=t.kind/\t.kind<=4/\t.names=[]/\t.kids=[])\/(t.kind=5/\t.names.length=t.kids.length/\t.names.length<=16/\∀x,x∈t.names->nG x=true)\/(t.kind=6/\t.names=[]/\t.kids.length=2)\/(t.kind=7/\t.names=[]/\t.kids.length<=6/\∀x,x∈t.kids->1<=x.kind/\x.kind<=6)):=by
 cases t;rw[jG,zb];try rfl
theorem vZ(k:Int)(h0:0<=k)(h4:k<=4):jG (bT k):=(mI _).2 ⟨rfl,λx h=>(by cases h),.inl ⟨h0,h4,rfl,rfl⟩⟩
theorem rQ:jG noT:=vZ 0 (by omega) (by omega)
theorem NS:∀(ss:List fI) (ts:List gq) (ns:List fI) (ks:List gq),ss.length=ts.length->ns.length=ks.length->(∀x,x∈ns->nG x=true)->(kK ss ts ns ks).2=true->
 (kK ss ts ns ks).1.1.length=(kK ss ts ns ks).1.2.length/\(kK ss ts ns ks).1.1.length=ns.length+ss.length/\(∀x,x∈(kK ss ts ns ks).1.1->nG x=true)/\∀x,x∈(kK ss ts ns ks).1.2->x∈ks\/x∈ts
|[],ts,ns,ks,h0,h1,h2,h=>by
 cases ts with
 |nil=>rw[kK];exact⟨h1,rfl,h2,λx hx=>.inl hx⟩;all_goals (intros;contradiction)
 |cons _ _=>simp at h0
|s::ss,[],ns,ks,h0,h1,h2,h=>by simp at h0
| s ::ss,t::ts,ns,ks,h0,h1,h2,h=>by
 have hp:=NH s ns;rw[kK]at h⊢;by_cases q:nG s=false\/ns[jg s ns]?=some s
 ·rw[aC q]at h;cases h
 rw[aB q]at h⊢;have hs:nG s=true:=by
  cases e:nG s with
  |true=>rfl
  |false=>exact absurd (.inl e) q
 have i:=NS ss ts (ns.take (jg s ns)++s::ns.drop (jg s ns)) (ks.take (jg s ns)++t::ks.drop (jg s ns)) (by simpa using h0) (by simp;omega) (λx hx=>by
  rcases aM.1 hx with hx|hx
  ·exact h2 x (bi hx)
  ·rcases aN.1 hx with rfl|hx
   ·exact hs
   ·exact h2 x (dQ hx)) h
 refine⟨i.1,?_,i.2.2.1,λx hx=>?_⟩
 ·rw[i.2.1];simp;omega
 ·rcases i.2.2.2 x hx with hx|hx
  ·rcases aM.1 hx with hx|hx
   ·exact .inl (bi hx)
   ·rcases aN.1 hx with rfl|hx
    ·exact .inr (by simp)
    ·exact .inl (dQ hx)
  ·exact .inr (by simp[hx])
theorem znH{l:List gq}(h:∀x,x∈l->jG x):∀y,y∈l.flatMap iy->jG y:=λy hy=>by
 obtain⟨x,hx,hy⟩:=eZ.1 hy;unfold iy at hy;split at hy
 ·exact((mI x).1 (h x hx)).2.1 y hy
 ·simp at hy;subst hy;exact h y hx
theorem zmG{y:gq}(h:iN y∈([0,1,2,3,4,5]:List Int)):1<=y.kind/\y.kind<=6:=by
 unfold iN at h;split at h
 ·simp at h
 ·omega
theorem zn5(k:Int)(s:List fI)(l:List gq)(hl:∀x,x∈l->jG x)(hk:5<=k/\k<=7)(h:(oO k s l).2=true):jG (oO k s l).1:=by
 unfold oO at h⊢;by_cases k5:k=5
 ·rw[aC k5]at h⊢;unfold yg at h⊢;by_cases q:s.length≠l.length\/16<s.length
  ·rw[aC q]at h;cases h
  rw[aB q]at h⊢;have i:=NS s l [] [] (by omega) rfl (by simp) h;refine(mI _).2 ⟨rfl,λx hx=>?_,.inr (.inl ⟨rfl,i.1,?_,i.2.2.1⟩)⟩
  ·rcases i.2.2.2 x hx with hx|hx
   ·cases hx
   ·exact hl x hx
  ·show(kK s l [] []).1.1.length<=16;rw[i.2.1];simp;omega
 rw[aB k5]at h⊢;by_cases k6:k=6
 ·rw[aC k6]at h⊢;simp only[aI]at h;exact(mI _).2 ⟨rfl,hl,.inr (.inr (.inl ⟨rfl,rfl,h⟩))⟩
 rw[aB k6]at h⊢;unfold zV at h⊢;have hm:=JI (l.flatMap iy) [0,1,2,3,4,5] [];have hlen:=NQ (l.flatMap iy) [0,1,2,3,4,5] [];simp only at h⊢;generalize qY (l.flatMap iy) [0,1,2,3,4,5] []=r at*
 have hw:∀y,y∈r.1->jG y/\1<=y.kind/\y.kind<=6:=λy hy=>by
  rcases hm y hy with q|⟨q1,q2⟩
  ·cases q
  ·exact⟨znH hl y q1,zmG q2⟩
 have seven:∀L:List gq,L.length<=6->(∀y,y∈L->jG y/\1<=y.kind/\y.kind<=6)->jG (.mk 7 (bs []) [] L):=λL hn hL=>(mI _).2 ⟨rfl,λx hx=>(hL x hx).1,.inr (.inr (.inr ⟨rfl,rfl,hn,λx hx=>(hL x hx).2⟩))⟩;by_cases q:r.2=true
 ·rw[aC q]at h⊢;split
  ·rename_i x e;exact(hw x (by rw[e];simp)).1
  ·exact seven _ (by simpa using hlen) hw
 ·rw[aB q]at h;cases h
mutual
theorem NT:∀t:gq,(lh t).2=true->jG (lh t).1
| .mk k n s l,h=>by
 rw[lh]at h⊢;by_cases q:5<=k/\k<=7
 ·rw[aC q]at h⊢;by_cases q2:(kV l).2=true
  ·rw[aC q2]at h⊢;exact zn5 k s _ (Vr l q2) q h
  ·rw[aB q2]at h;cases h
 ·rw[aB q]at h⊢;by_cases q2:0<=k/\k<=4
  ·rw[aC q2];exact vZ k q2.1 q2.2
  ·rw[aB q2]at h;cases h
theorem Vr:∀l:List gq,(kV l).2=true->∀x,x∈(kV l).1->jG x
|[],_,x,hx=>by rw[kV]at hx;cases hx
| t::l,h,x,hx=>by
 rw[kV]at h hx;by_cases q:(lh t).2=true
 ·rw[aC q]at h hx;rcases aN.1 hx with rfl|hx
  ·exact NT t q
  ·exact Vr l h x hx
 ·rw[aB q]at h;cases h
end
theorem Fp(t:gq):jG (mQ t).1:=by
 unfold mQ;split
 ·exact rQ
 split
 ·rename_i h;exact NT t h
 ·exact rQ
theorem Fq{t:gq}(h:(mQ t).2=0):(lh t).2=true/\nX t 201<=200/\oI 17 t<=16/\(mQ t).1=(lh t).1:=by
 unfold mQ at h⊢;by_cases q:16<oI 17 t\/200<nX t 201
 ·rw[aC q]at h;cases h
 rw[aB q]at h⊢;by_cases q2:(lh t).2=true
 ·rw[aC q2];exact⟨q2,by omega,by omega,rfl⟩
 ·rw[aB q2]at h;cases h
theorem Fs{t:gq}:iH t=true↔(mQ t).2=0/\(mQ t).1=t:=by
 unfold iH;rw[aG,aI,DJ]
theorem ze{t:gq}(h:iH t=true):jG t:=by
 have h:=Fs.1 h;rw[<-h.2];exact Fp t
theorem zGo{t:gq}(h:iH t=true):lC t/\nX t 201<=200:=by
 have h:=Fq (Fs.1 h).1;exact⟨Ff t 201 (by omega) (by omega),h.2.1⟩
mutual
def jQ:gq->Nat
|.mk _ _ _ l=>jM l+1
def jM:List gq->Nat
|[]=>0
|t::l=>jQ t+jM l
end
mutual
theorem NU:∀(t:gq) (m:Int),nX t m<m->nX t m=jQ t
|.mk k n s l,m,h=>by
 rw[nX]at h⊢;have:=Vs l m 1 (by omega) h;rw[jQ];omega
theorem Vs:∀(l:List gq) (m n:Int),1<=n->qK l m n<m->qK l m n=n+jM l
|[],m,n,h1,h=>by rw[qK,jM];omega
| t::l,m,n,h1,h=>by
 have hle:=JE t (m-n);rw[qK]at h⊢;by_cases q:n<m
 ·rw[aC q]at h⊢;have hle2:=JF l m (n+nX t (m-n)) (by omega);have i1:=Vs l m (n+nX t (m-n)) (by omega) h;have i2:=NU t (m-n) (by omega);rw[jM];omega
 ·rw[aB q]at h;omega
end
theorem zHS(t:gq):1<=jQ t:=by cases t;rw[jQ];omega
theorem NV:∀{l:List gq} {x:gq},x∈l->jQ x<=jM l
|t::l,x,h=>by
 rw[jM];rcases aN.1 h with rfl|h
 ·omega
 ·have:=NV h;omega
theorem Fu{t:gq}(h:iH t=true):jQ t<=200:=by
 have h:=(zGo h).2;have:=NU t 201 (by omega);omega
theorem NW{s:fI}(h:nG s=true):s.size<=32:=by
 unfold nG at h;split at h
 ·cases h
 ·simp at h;exact h.1
@[simp] theorem Ah(l:List Nat):(bs l).size=l.length:=by
 show(bs l).data.size=_;simp[bs]
theorem Vt(k:Int)(n:fI)(s:List fI)(l:List gq)(br:Bool):sP (.mk k n s l) br=
 if k=0 then bs [97,110,121]else if k=1 then bs [110,117,108,108]else if k=2 then bs [98,111,111,108]else if k=3 then bs [105,110,116]else if k=4 then bs [115,116,114]
 else if k=5 then bs [123]++yD s l (bs []) 0++bs [125]
 else if k=6 then(match l with
  |a::b::_=>if br=true then bs [40]++(sP a true++bs [32,45,62,32]++sP b false)++bs [41]else sP a true++bs [32,45,62,32]++sP b false
  |_=>bs [])
 else zW l (bs []) 0:=by rw[sP.eq_def];try rfl
mutual
theorem Ai:∀(t:gq) (br:Bool),jG t->(sP t br).size+60<=100*jQ t
| .mk k n s l,br,h=>by
 have hw:=h;rw[jG,zb]at h;obtain⟨_,hl,hc⟩:=h;have hl':=(zb l).2 hl;rw[Vt,jQ];split
 ·simp;omega
 split
 ·simp;omega
 split
 ·simp;omega
 split
 ·simp;omega
 split
 ·simp;omega
 split
 ·rename_i k5;subst k5;have hc:s.length=l.length/\s.length<=16/\∀x,x∈s->nG x=true:=by
   rcases hc with⟨_,q,_⟩|⟨_,q⟩|⟨q,_⟩|⟨q,_⟩
   ·omega
   ·exact q
   ·omega
   ·omega
  have:=NY s l (bs []) 0 hl' hc.2.2;simp at this⊢;omega
 split
 ·rename_i k6;subst k6;have hc:l.length=2:=by
   rcases hc with⟨_,q,_⟩|⟨q,_⟩|⟨_,_,q⟩|⟨q,_⟩
   ·omega
   ·omega
   ·exact q
   ·omega
  match l,hc,hl' with
  |[a,b],_,hl'=>
   rw[lW,lW]at hl';have ha:=Ai a true hl'.1;have hb:=Ai b false hl'.2.1;simp only[jM];split
   ·simp;omega
   ·simp;omega
 ·have:=Vu l (bs []) 0 hl';simp at this;omega
theorem NY:∀(s:List fI) (l:List gq) (out:fI) (i:Nat),lW l->(∀x,x∈s->nG x=true)->(yD s l out i).size<=out.size+100*jM l
|[],l,out,i,h,hn=>by rw[yD];omega;all_goals (intros;contradiction)
|_::_,[],out,i,h,hn=>by rw[yD];omega;all_goals (intros;contradiction)
|s::ss,t::ts,out,i,h,hn=>by
 rw[lW]at h;have h1:=Ai t false h.1;have h3:=NW (hn s (by simp));rw[yD,jM];have h2:=NY ss ts ((if 0<i then out++bs [44,32]else out)++s++bs [58,32]++sP t false) (i+1) h.2 (λx hx=>hn x (by simp[hx]));refine ak h2 ?_;split<;>simp<;>omega
theorem Vu:∀(l:List gq) (out:fI) (i:Nat),lW l->(zW l out i).size<=out.size+100*jM l
|[],out,i,h=>by rw[zW];omega
|t::ts,out,i,h=>by
 rw[lW]at h;have h1:=Ai t true h.1;rw[zW,jM];have h2:=Vu ts ((if 0<i then out++bs [32,124,32]else out)++sP t true) (i+1) h.2;refine ak h2 ?_;split<;>simp<;>omega
end
abbrev DK(e:gq):Prop:=∀br:Bool,gu Pg 94 [.agg e.enc,.one (.bool br)] (.one (.str (sP e br)))
theorem zGg{c:Ctx}(hp:c.pure)(t:gq)(hw:lW t.kids)(hn:t.names.length=t.kids.length)(hnm:∀x,x∈t.names->nG x=true)(hc:jM t.kids<=1000)(hl:t.names.length<=1000)(ih:∀e,e∈t.kids->DK e)(R:fI)(hR:yD t.names t.kids (bs []) 0=R){Q:Exit->St->Prop}{S:St}{g}{ms:List Nat}
  (h0:iM ms S [(6,.c (.d (.int .i64 0))),(5,.c (.d (.str (bs [])))),(2,.c (.d (.rp t.enc 0)))] [])
  (hQ:∀T M n,Abs.look T 5=.c (.d (.str R))->Q (.exit 1) ⟨T,M,n⟩):lU Pg c Mr Q g S:=by
 refine fU iC hp (λx:Nat × fI=>x.1<=t.names.length/\x.2.size+100*jM (t.kids.drop x.1)<=100*jM t.kids/\yD (t.names.drop x.1) (t.kids.drop x.1) x.2 x.1=R) (λx=>[(6,.c (.d (.int .i64 x.1))),(5,.c (.d (.str x.2))),(2,.c (.d (.rp t.enc 0)))]) (λ_=>[]) (λx=>t.names.length-x.1) (0,bs []) ms ⟨by simp,by simp,by simpa using hR⟩ h0 λ⟨j,out⟩ ⟨h1,h2,h3⟩=>?_;unfold Mr;simp only at h1 h2 h3;simp;apply gT<;>intro h
 ·have hj:j<t.names.length:=by simpa using h
  have hj2:j<t.kids.length:=by omega
  rw[aF hj,aF hj2,yD]at h3;rw[aF hj2,jM]at h2;have hnx:=NW (hnm _ (aP hj));have hsx:=Ai t.kids[j] false ((zb _).1 hw _ (aP hj2));have hix:=ih _ (aP hj2) false;by_cases h0:j=0
  ·subst h0;simp only[Nat.lt_irrefl,if_false]at h3;simp[hj,hj2,zah];refine⟨by omega,by omega,?_⟩;refine gp hix ?_;simp[zah];refine⟨by omega,by decide,?_⟩;refine fJ (0+1,_) [] ⟨by simp only;omega,?_,h3⟩ (by simp only;omega) ?_
   ·simp only[ax,Ah,length_cons,length_nil];omega
   ·simp;decide
  ·have h0':(0:Int)<j:=by omega
   have h0'':0<j:=by omega
   rw[aC h0'']at h3;simp[h0',h0'',hj,hj2,zah];refine⟨by omega,by omega,by omega,?_⟩;refine gp hix ?_;simp[zah];refine⟨by omega,by decide,?_⟩;refine fJ (j+1,_) [] ⟨by simp only;omega,?_,h3⟩ (by simp only;omega) ?_
   ·simp;omega
   ·simp;exact wI
 ·have hj:j=t.names.length:=by simp at h;omega
  subst hj;rw[aO,yD]at h3
  ·subst h3;exact hQ _ _ _ (by simp)
  ·intros;contradiction
theorem zGh{c:Ctx}(hp:c.pure)(t:gq)(hw:lW t.kids)(hc:jM t.kids<=1000)(hl:t.kids.length<=1000)(ih:∀e,e∈t.kids->DK e)(R:fI)(hR:zW t.kids (bs []) 0=R){Q:Exit->St->Prop}{S:St}{g}{ms:List Nat}
  (h0:iM ms S [(7,.c (.d (.int .i64 0))),(5,.c (.d (.str (bs [])))),(2,.c (.d (.rp t.enc 0)))] [])
  (hQ:∀T M n,Abs.look T 5=.c (.d (.str R))->Q (.exit 3) ⟨T,M,n⟩):lU Pg c Ms Q g S:=by
 refine fU iC hp (λx:Nat × fI=>x.1<=t.kids.length/\x.2.size+100*jM (t.kids.drop x.1)<=100*jM t.kids/\zW (t.kids.drop x.1) x.2 x.1=R) (λx=>[(7,.c (.d (.int .i64 x.1))),(5,.c (.d (.str x.2))),(2,.c (.d (.rp t.enc 0)))]) (λ_=>[]) (λx=>t.kids.length-x.1) (0,bs []) ms ⟨by simp,by simp,by simpa using hR⟩ h0 λ⟨j,out⟩ ⟨h1,h2,h3⟩=>?_;unfold Ms;simp only at h1 h2 h3;simp;apply gT<;>intro h
 ·have hj2:j<t.kids.length:=by simpa using h
  rw[aF hj2,zW]at h3;rw[aF hj2,jM]at h2;have hsx:=Ai t.kids[j] true ((zb _).1 hw _ (aP hj2));have hix:=ih _ (aP hj2) true;by_cases h0:j=0
  ·subst h0;simp only[Nat.lt_irrefl,if_false]at h3;simp[hj2,zah];refine gp hix ?_;simp[zah];refine⟨by omega,?_⟩;refine fJ (0+1,_) [] ⟨by simp only;omega,?_,h3⟩ (by simp only;omega) ?_
   ·simp only[ax,Ah,length_cons,length_nil];omega
   ·simp;decide
  ·have h0':(0:Int)<j:=by omega
   have h0'':0<j:=by omega
   rw[aC h0'']at h3;simp[h0',h0'',hj2,zah];refine⟨by omega,?_⟩;refine gp hix ?_;simp[zah];refine⟨by omega,?_⟩;refine fJ (j+1,_) [] ⟨by simp only;omega,?_,h3⟩ (by simp only;omega) ?_
   ·simp;omega
   ·simp;exact wI
 ·have hj:j=t.kids.length:=by simp at h;omega
  subst hj;rw[aO,zW]at h3;subst h3;exact hQ _ _ _ (by simp)
theorem zGi(t:gq)(hw:jG t)(hc:jQ t<=1000)(ih:∀e,e∈t.kids->DK e):DK t:=by
 intro br;refine zDm (by simp) λo c hN hp=>?_;obtain⟨R,hR⟩:∃R,sP t br=R:=⟨_,rfl⟩
 rw[hR];have hwf:=(mI t).1 hw;have hws:=(zb t.kids).2 hwf.2.1;have hcs:jQ t=jM t.kids+1:=by cases t;rw[jQ];try rfl
 have hd:=Vt t.kind t.name t.names t.kids br;rw[show gq.mk t.kind t.name t.names t.kids=t by cases t;rfl,hR]at hd;have hll:∀l:List gq,l.length<=jM l:=by
  intro l
  induction l with
  |nil=>simp
  |cons x l ih=>have:=zHS x;simp[jM];omega
 have hkl:=hll t.kids;unfold VF;by_cases k0:t.kind=0
 ·simp[k0]at hd;simp[k0,hd]
 by_cases k1:t.kind=1
 ·simp[k1]at hd;simp[k1,hd]
 by_cases k2:t.kind=2
 ·simp[k2]at hd;simp[k2,hd]
 by_cases k3:t.kind=3
 ·simp[k3]at hd;simp[k3,hd]
 by_cases k4:t.kind=4
 ·simp[k4]at hd;simp[k4,hd]
 by_cases k5:t.kind=5
 ·simp[k5]at hd;have hn:t.names.length=t.kids.length/\t.names.length<=16/\∀x,x∈t.names->nG x=true:=by
   rcases hwf.2.2 with⟨_,q,_⟩|⟨_,q⟩|⟨q,_⟩|⟨q,_⟩
   ·omega
   ·exact q
   ·omega
   ·omega
  have hfs:=NY t.names t.kids (bs []) 0 hws hn.2.2;simp only[Ah,length_nil,Nat.zero_add]at hfs;simp[k5];refine zGg hp t hws hn.1 hn.2.2 (by omega) (by omega) ih _ rfl (ms:=[]) (by simp) λT M n t5=>?_;generalize yD t.names t.kids (bs []) 0=f at*
  simp[t5,zah];refine⟨by omega,by omega,?_⟩;rw[hd]
 by_cases k6:t.kind=6
 ·have hn:t.kids.length=2:=by
   rcases hwf.2.2 with⟨_,q,_⟩|⟨q,_⟩|⟨_,_,q⟩|⟨q,_⟩
   ·omega
   ·omega
   ·exact q
   ·omega
  obtain⟨a,b,hab⟩:∃a b,t.kids=[a,b]:=by
   match t.kids,hn with
   |[a,b],_=>exact⟨a,b,rfl⟩
  have hia:=ih a (by rw[hab];simp) true;have hib:=ih b (by rw[hab];simp) false;have hsa:=Ai a true (hwf.2.1 a (by rw[hab];simp));have hsb:=Ai b false (hwf.2.1 b (by rw[hab];simp));rw[hab]at hcs hd;simp only[jM]at hcs;simp[k6]at hd;simp[k6,hab,zah];refine gp hia ?_;simp[hab,zah];refine⟨by omega,?_⟩;refine gp hib ?_;generalize sP a true=sa at*
  generalize sP b false=sb at*
  simp[zah];refine⟨by omega,by decide,?_⟩;cases br with
  |true=>
   simp at hd;simp[zah];refine⟨by omega,by omega,?_⟩;rw[hd]
  |false=>
   simp at hd;simp[hd]
 ·simp[k0,k1,k2,k3,k4,k5,k6]at hd;simp[k0,k1,k2,k3,k4,k5,k6];refine zGh hp t hws (by omega) (by omega) ih R hd.symm (ms:=[]) (by simp) λT M n t5=>?_;simp[t5]
mutual
theorem Vv:∀t:gq,jG t->jQ t<=1000->DK t
|.mk k n s l,hw,hc=>by
 have hws:=hw;rw[jG]at hws;rw[jQ]at hc;exact zGi (.mk k n s l) hw (by rw[jQ];omega) (λe he=>Vw l hws.2.1 (by omega) e he)
theorem Vw:∀l:List gq,lW l->jM l<=1000->∀e,e∈l->DK e
|[],_,_,e,h=>by cases h
|d::l,hw,hc,e,h=>by
 rw[lW]at hw;rw[jM]at hc;cases h with
 |head=>exact Vv d hw.1 (by omega)
 |tail _ h=>exact Vw l hw.2 (by omega) e h
end
theorem JJ(t:gq):gu Pg 60 [.agg t.enc] (.one (.str (yE t))):=by
 refine zDl (by simp) λo c hN hp=>?_;obtain⟨R,hR⟩:∃R,yE t=R:=⟨_,rfl⟩
 rw[hR];unfold yE at hR;have hi:iH t=(decide ((mQ t).2=0)&&ky (mQ t).1 t):=rfl;have hsh:iH t=true->DK t:=λh=>Vv t (ze h) (by have:=Fu h;omega);unfold VE;simp;refine gp (Ag t) ?_;generalize mQ t=N at*
 simp;refine gp (EX _ _) ?_;by_cases h:N.2=0
 ·by_cases h2:ky N.1 t=true
  ·have hx:iH t=true:=by rw[hi];simp[h,h2]
   rw[aC hx]at hR;simp[h,h2];refine gp (hsh hx false) ?_;simp[hR]
  ·have hx:¬iH t=true:=by rw[hi];simp[h,h2]
   rw[aB hx]at hR;subst hR;simp[h,h2]
 ·have hx:¬iH t=true:=by rw[hi];simp[h]
  rw[aB hx]at hR;subst hR;simp[h]
end Go.Gr
