/- Texts of ours, joined and written short by a program of ours. -/
import Derived.Test.YtlfjlokfciejnaaGreatDoorLJ08
import Derived.Test.YtlfjlokfciejnaaGreatDoorLJ06
set_option maxRecDepth 20000
set_option maxHeartbeats 4000000
set_option linter.unusedVariables false
set_option linter.unusedSimpArgs false
namespace Go.Gr
open Go.Abs Go.Proofs
inductive gy where
 |mk (kind n:Int) (text:fF) (ints:List Int) (names:List fF) (types:List gU) (cos:List gp) (kids:List gy)
mutual
def gy.enc:gy->List D
 |.mk k n t is ns ts cs ks=>[.int .i64 k,.int .i64 n,.str t,.sl false 1 (encI is),.sl false 1 (encS ns),.sl false 4 (ts.map gU.enc),.sl false 5 (cs.map gp.enc),.sl false 8 (gy.encs ks)]
def gy.encs:List gy->List (List D)
 |[]=>[]
 |c::l=>gy.enc c::gy.encs l
end
theorem gy.encs_map(l:List gy):gy.encs l=l.map gy.enc:=by
 induction l with
 |nil=>rfl
 |cons n l ih=>simp[gy.encs,ih]
def gy.kind:gy->Int|.mk k _ _ _ _ _ _ _=>k
def gy.n:gy->Int|.mk _ n _ _ _ _ _ _=>n
def gy.text:gy->fF|.mk _ _ t _ _ _ _ _=>t
def gy.ints:gy->List Int|.mk _ _ _ i _ _ _ _=>i
def gy.names:gy->List fF|.mk _ _ _ _ n _ _ _=>n
def gy.types:gy->List gU|.mk _ _ _ _ _ t _ _=>t
def gy.cos:gy->List gp|.mk _ _ _ _ _ _ c _=>c
def gy.kids:gy->List gy|.mk _ _ _ _ _ _ _ l=>l
theorem gy.enc_eq(t:gy):t.enc=[.int .i64 t.kind,.int .i64 t.n,.str t.text,.sl false 1 (encI t.ints),.sl false 1 (encS t.names),.sl false 4 (t.types.map gU.enc),.sl false 5 (t.cos.map gp.enc),.sl false 8 (t.kids.map gy.enc)]:=by
 cases t;simp[gy.enc,gy.encs_map,gy.kind,gy.text,gy.n,gy.ints,gy.cos,gy.types,gy.names,gy.kids]
@[simp] theorem gy.enc_length(t:gy):t.enc.length=8:=by rw[t.enc_eq];try rfl
structure jh where
  name:fF
  type:gU
  body:gy
def jh.enc(f:jh):List D:=.str f.name::(f.type.enc++f.body.enc)
structure Site where
  module:Int
  line:Int
  col:Int
def Site.enc(s:Site):List D:=[.int .i64 s.module,.int .i64 s.line,.int .i64 s.col]
structure lZ where
  funs:List jh
  main:Int
  sites:List Site
def lZ.enc(p:lZ):List D:=[.sl false 13 (p.funs.map jh.enc),.int .i64 p.main,.sl false 3 (p.sites.map Site.enc)]
def yF:lZ:=⟨[],0,[]⟩
structure CS where
  tab:List kX
  funs:List jh
  main:Int
  sites:List Site
  bad:List iV
  module:Int
  vars:List fF
  wth:List gU
  e:Int
  line:Int
  col:Int
abbrev Env:=List (fF × gU)
abbrev Inf:=Env->CS->(gy × gU) × CS
def cK(k:Int)(l:List gy):gy:=.mk k 0 (bs []) [] [] [] [] l
def cN(k n:Int):gy:=.mk k n (bs []) [] [] [] [] []
def cT(k:Int)(t:fF)(l:List gy):gy:=.mk k 0 t [] [] [] [] l
def noC:gy:=cN 0 0
def kR(a b:gU):gU:=.mk 6 (bs []) [] [a,b]
def lI(ln cl e:Int)(s:CS):CS:=if s.e=0 then {s with e:=e,line:=ln,col:=cl}else s
def kC(t:gU)(ln cl:Int)(s:CS):gU × CS:=
 let r:=qy t s.vars s.wth
 (r.1,if r.2≠0 then lI ln cl 9 s else s)
def pX(t:gU)(ln cl:Int)(s:CS):gU × CS:=((mO t).1,if(mO t).2≠0 then lI ln cl 9 s else s)
def mP(x:gy)(t u:gU)(ln cl:Int)(s:CS):gy × CS:=
 if s.e≠0 then(x,s)else(.mk 21 s.sites.length (bs []) [] [] [t,u] [] [x],{s with sites:=s.sites++[⟨s.module,ln,cl⟩]})
def lF(x:gy)(t u:gU)(ln cl:Int)(s:CS):gy × CS:=
 if s.e≠0 then(x,s)else if pW t u=true then(x,s)else if A8 t u=true then mP x t u ln cl s else(x,lI ln cl 15 s)
section
variable (L:iQ)
def vX(m k:Int):jZ:=(L.mods.getD m.toNat o9).decs.getD k.toNat Bb
def tO(e:jF)(l:List gU):gU × Bool:=
 let d:=vX L e.module e.decl;let a:=qy (d.types.getD 0 noT) (d.vars.map (·.1)) l;let b:=qy (d.types.getD 1 noT) (d.vars.map (·.1)) l;let t:=mO (kR a.1 b.1)
 (t.1,decide (a.2=0)&&(decide (b.2=0)&&decide (t.2=0)))
def tQ (ln cl:Int) (e:jF) (l:List gU) (s:CS):(gy × gU) × CS:=
 if(tO L e l).2=false then((noC,noT),lI ln cl 9 s)else
   let r:=ku 256 s.tab ⟨e.module,e.decl,l⟩
   ((cN 6 r.1.1,(tO L e l).1),if r.1.2≠0 then lI ln cl r.1.2 {s with tab:=r.2}else {s with tab:=r.2})
def rT(env:Env)(x:fF):Int:=match fi (λb:fF × gU=>decide (b.1=x)) 0 env.reverse with
 |i=>if i<0 then -1 else env.length-1-i
def sV(ln cl:Int):List gU->List gU->CS->List gU × CS
 |[],l,s=>(l,s)
 |t::ts,l,s=>if s.e≠0 then(l,s)else sV ln cl ts (l++[(kC t ln cl s).1]) (kC t ln cl s).2
def xV (n:gq) (env:Env) (s:CS):(gy × gU) × CS:=
 let k:=rT env n.text;let e:=qx (L.scopes.getD s.module.toNat []) n.text
 if 0<=k/\n.kind=4 then((cN 4 k,(env.getD k.toNat (bs [],noT)).2),s)
 else if k<0/\e.2=false then((noC,noT),lI n.line n.col 10 s)
 else if 0<=k then((noC,noT),lI n.line n.col 18 s)
 else
   let d:=vX L e.1.module e.1.decl
   if decide (0<d.vars.length)≠decide (n.kind=19)then((noC,noT),lI n.line n.col 18 s)
   else if n.kind=4 then tQ L n.line n.col e.1 [] s
   else
     let r:=sV n.line n.col n.types [] s
     if r.2.e≠0 then((noC,noT),r.2)
     else if EG d.vars r.1≠0 then((noC,noT),lI n.line n.col (EG d.vars r.1) r.2)
     else tQ L n.line n.col e.1 r.1 r.2
end
def pY (n a:gq) (ia ib:Inf) (env:Env) (s:CS):(gy × gU) × CS:=
 let x:=ia env s
 let y:=if 0<n.types.length/\x.2.e=0 then
     (let u:=kC (n.types.getD 0 noT) n.line n.col x.2
      let z:=lF x.1.1 x.1.2 u.1 a.line a.col u.2
      ((z.1,u.1),z.2))
   else x
 let z:=ib (env++[(n.text,y.1.2)]) y.2
 ((cK 18 [y.1.1,z.1.1],z.1.2),z.2)
def xW(n a:gq)(ia:Inf)(env:Env)(s:CS):(gy × gU) × CS:=
 let p:=kC (n.types.getD 0 noT) n.line n.col s;let q:=if 1<n.types.length/\p.2.e=0 then kC (n.types.getD 1 noT) n.line n.col p.2 else(noT,p.2);let x:=ia (env++[(n.text,p.1)]) q.2;let y:=if 1<n.types.length then(let z:=lF x.1.1 x.1.2 q.1 a.line a.col x.2;((z.1,q.1),z.2))else x;let u:=pX (kR p.1 y.1.2) n.line n.col y.2
 ((cK 5 [y.1.1],u.1),u.2)
def kg(u:gU)(ln cl:Int)(x:(gy × gU) × CS):(gy × gU) × CS:=
 if x.1.2.kind=0 then(((mP x.1.1 x.1.2 u ln cl x.2).1,u),(mP x.1.1 x.1.2 u ln cl x.2).2)else x
def xX (n b:gq) (ia ib:Inf) (env:Env) (s:CS):(gy × gU) × CS:=
 let x:=kg (kR noT noT) n.line n.col (ia env s)
 if x.1.2.kind≠6 then((noC,noT),lI n.line n.col 16 x.2)else
   let y:=ib env x.2;let z:=lF y.1.1 y.1.2 (je x.1.2) b.line b.col y.2
   ((cK 7 [x.1.1,z.1],jf x.1.2),z.2)
def mG:List fF->List fF->Bool
 |_,[]=>false
 |had,n::l=>had.any (λm=>decide (m=n))||mG (had++[n]) l
def qO(n:gq)(ks:Env->CS->(List gy × List gU) × CS)(env:Env)(s:CS):(gy × gU) × CS:=
 let s1:=if mG [] n.names=true then lI n.line n.col 8 s else s;let r:=ks env s1;let u:=pX (.mk 5 (bs []) n.names r.1.2) n.line n.col r.2
 ((.mk 8 0 (bs []) [] n.names [] [] r.1.1,u.1),u.2)
def p8(n:gq)(ia:Inf)(env:Env)(s:CS):(gy × gU) × CS:=
 let x:=ia env s;let f:=kM x.1.2 n.text;let y:=if x.1.2.kind=0 then mP x.1.1 x.1.2 (.mk 5 (bs []) [n.text] [noT]) n.line n.col x.2 else(x.1.1,x.2)
 ((cT 9 n.text [y.1],f.1),if f.2=true\/x.1.2.kind=0 then y.2 else lI n.line n.col 17 y.2)
def sD(x:fF):List fF->List gU->List (fF × gU)
 |n::ns,k::ks=>if n=x then sD x ns ks else(n,k)::sD x ns ks
 |_,_=>[]
def xY (n:gq) (ia ib:Inf) (env:Env) (s:CS):(gy × gU) × CS:=
 let x:=kg (bT 5) n.line n.col (ia env s)
 if x.1.2.kind≠5 then((noC,noT),lI n.line n.col 17 x.2)else
   let y:=ib env x.2;let r:=(n.text,y.1.2)::sD n.text x.1.2.names x.1.2.kids;let u:=pX (.mk 5 (bs []) (r.map (·.1)) (r.map (·.2))) n.line n.col y.2
   ((cT 10 n.text [x.1.1,y.1.1],u.1),u.2)
def oZ (q:gq) (env:Env):Env × Env:=
 if q.kind=12/\(q.kids.getD 0 qo).kind=4/\0<=rT env (q.kids.getD 0 qo).text then
   let k:=(rT env (q.kids.getD 0 qo).text).toNat;let b:=env.getD k (bs [],noT)
   (env.set k (b.1,(vV b.2 q.n).1),env.set k (b.1,(vV b.2 q.n).2))
 else(env,env)
def xZ(q a b:gq)(iq ia ib:Inf)(env:Env)(s:CS):(gy × gU) × CS:=
 let x:=iq env s;let x':=lF x.1.1 x.1.2 (bT 2) q.line q.col x.2;let y:=ia (oZ q env).1 x'.2;let z:=ib (oZ q env).2 y.2;let j:=y9 y.1.2 z.1.2;let y':=lF y.1.1 y.1.2 j a.line a.col z.2;let z':=lF z.1.1 z.1.2 j b.line b.col y'.2
 ((cK 11 [x'.1,y'.1,z'.1],j),z'.2)
def x8 (n:gq) (ia:Inf) (env:Env) (s:CS):(gy × gU) × CS:=
 let x:=ia env s
 if x.2.e≠0 then x else
   let u:=kC (n.types.getD 0 noT) n.line n.col x.2
   if u.2.e≠0\/pW x.1.2 u.1=true then((x.1.1,u.1),u.2)else
     let y:=if x.1.2.kind≠0 then mP x.1.1 x.1.2 noT n.line n.col u.2 else(x.1.1,u.2)
     if u.1.kind=0 then((y.1,u.1),y.2)
     else if x.1.2.kind=0 then(((mP y.1 x.1.2 u.1 n.line n.col y.2).1,u.1),(mP y.1 x.1.2 u.1 n.line n.col y.2).2)
     else((.mk 21 y.1.n (bs []) [] [] [noT,u.1] [] [y.1],u.1),y.2)
def nQ(n:gq)(i:Inf)(t:gU)(env:Env)(s:CS):gy × CS:=
 let x:=i env s
 lF x.1.1 x.1.2 t n.line n.col x.2
def vY:List fF:=[bs [43],bs [45],bs [42],bs [47],bs [37],bs [60,60],bs [62,62],bs [38],bs [94],bs [60],bs [60,61]]
def Bc(s:fF):Int:=max 0 (fi (λx=>decide (x=s)) 0 vY)
def opC (n a b:gq) (ia ib:Inf) (env:Env) (s:CS):(gy × gU) × CS:=
 if n.text=bs [111,114]then
   let x:=nQ a ia (bT 2) env s;let y:=nQ b ib (bT 2) env x.2
   ((cK 11 [x.1,cN 2 1,y.1],bT 2),y.2)
 else if n.text=bs [97,110,100]then
   let x:=nQ a ia (bT 2) env s;let y:=nQ b ib (bT 2) env x.2
   ((cK 11 [x.1,y.1,cN 2 0],bT 2),y.2)
 else if n.text=bs [61,61]then
   let x:=ia env s;let y:=ib env x.2
   ((cK 14 [x.1.1,y.1.1],bT 2),y.2)
 else if n.text=bs [43,43]then
   let x:=nQ a ia (bT 4) env s;let y:=nQ b ib (bT 4) env x.2
   ((cK 15 [x.1,y.1],bT 4),y.2)
 else
   let x:=nQ a ia (bT 3) env s;let y:=nQ b ib (bT 3) env x.2
   ((.mk 13 (Bc n.text) (bs []) [] [] [] [] [x.1,y.1],if 9<=Bc n.text then bT 2 else bT 3),y.2)
def p9(n a:gq)(ia:Inf)(env:Env)(s:CS):(gy × gU) × CS:=
 if n.kind=15 then((cK 16 [(nQ a ia (bT 2) env s).1],bT 2),(nQ a ia (bT 2) env s).2)
 else if n.kind=16 then((cK 17 [(nQ a ia (bT 3) env s).1],bT 3),(nQ a ia (bT 3) env s).2)
 else if n.kind=12 then((.mk 12 n.n (bs []) [] [] [] [] [(ia env s).1.1],bT 2),(ia env s).2)
 else((cK 19 [(ia env s).1.1],bT 1),(ia env s).2)
mutual
def iy (L:iQ):gq->Inf
 | .mk k tx nn ln cl ts ns ks=>λenv s=>
   if s.e≠0 then((noC,noT),s)
   else if k=0 then((cN 0 nn,bT 3),s)
   else if k=1 then((cT 1 tx [],bT 4),s)
   else if k=2 then((cN 2 nn,bT 2),s)
   else if k=3 then((cN 3 0,bT 1),s)
   else if k=18 then((cN 20 0,bT 3),s)
   else if k=4\/k=19 then xV L (.mk k tx nn ln cl ts ns ks) env s
   else if k=8 then qO (.mk k tx nn ln cl ts ns ks) (oL L ks) env s
   else match ks with
     |[]=>((noC,noT),s)
     | a::[]=>
       if k=6 then xW (.mk k tx nn ln cl ts ns ks) a (iy L a) env s
       else if k=9 then p8 (.mk k tx nn ln cl ts ns ks) (iy L a) env s
       else if k=13 then x8 (.mk k tx nn ln cl ts ns ks) (iy L a) env s
       else p9 (.mk k tx nn ln cl ts ns ks) a (iy L a) env s
     | a::b::[]=>
       if k=5 then pY (.mk k tx nn ln cl ts ns ks) a (iy L a) (iy L b) env s
       else if k=7 then xX (.mk k tx nn ln cl ts ns ks) b (iy L a) (iy L b) env s
       else if k=10 then xY (.mk k tx nn ln cl ts ns ks) (iy L a) (iy L b) env s
       else opC (.mk k tx nn ln cl ts ns ks) a b (iy L a) (iy L b) env s
     |a::b::c::_=>xZ a b c (iy L a) (iy L b) (iy L c) env s
def oL (L:iQ):List gq->Env->CS->(List gy × List gU) × CS
 |[]=>λenv s=>(([],[]),s)
 | n::l=>λenv s=>
   let x:=iy L n env s;let r:=oL L l env x.2
   ((x.1.1::r.1.1,x.1.2::r.1.2),r.2)
end
def uf:List gU->Nat->fF->fF
 |[],_,s=>s
 |t::l,i,s=>uf l (i+1) (s++(if i=0 then bs [91]else bs [44,32])++yD t)
def nL(L:iQ)(x:kX)(s0:CS):CS:=
 let d:=vX L x.module x.decl;let s:CS:={s0 with module:=x.module,vars:=d.vars.map (·.1),wth:=x.types,e:=0}
 let a:=kC (d.types.getD 0 noT) d.line d.col s;let b:=kC (d.types.getD 1 noT) d.line d.col a.2;let t:gU × CS:=if b.2.e=0 then pX (kR a.1 b.1) d.line d.col b.2 else(kR a.1 b.1,b.2);let s2:CS:=if x.module=L.main.module/\x.decl=L.main.decl/\A8 (bT 1) a.1=false then lI d.line d.col 14 t.2 else t.2;let y:=iy L d.body [(d.param,a.1)] s2;let z:=lF y.1.1 y.1.2 b.1 d.body.line d.body.col y.2;let nm:=uf x.types 0 (L.names.getD x.module.toNat (bs [])++bs [46]++d.name);let nm:=if 0<x.types.length then nm++bs [93]else nm;let s3:CS:={z.2 with funs:=z.2.funs++[⟨nm,t.1,z.1⟩]}
 if s3.e≠0 then {s3 with bad:=s3.bad++[⟨x.module,s3.line,s3.col,s3.e⟩]}else s3
def vB (L:iQ) (i:Nat):List jZ->Nat->CS->CS × List iV
 |[],_,s=>(s,[])
 | d ::l,k,s=>
   if 0<d.vars.length then vB L i l (k+1) s else
     let r:=ku 256 s.tab ⟨i,k,[]⟩
     if r.1.2≠0 then({s with tab:=r.2},[⟨i,d.line,d.col,r.1.2⟩])
     else vB L i l (k+1) {s with tab:=r.2,main:=if(i:Int)=L.main.module/\(k:Int)=L.main.decl then r.1.1 else s.main}
def sF(L:iQ):List jW->Nat->CS->CS × List iV
 |[],_,s=>(s,[])
 |m::l,i,s=>if 0<(vB L i m.decs 0 s).2.length then vB L i m.decs 0 s else sF L l (i+1) (vB L i m.decs 0 s).1
def pK(L:iQ):Nat->Nat->CS->CS
 |0,_,s=>s
 |n+1,i,s=>if i<s.tab.length then pK L n (i+1) (nL L (s.tab.getD i ⟨0,0,[]⟩) s)else s
def cs0:CS:=⟨[],[],0,[],[],0,[],[],0,0,0⟩
def Ac (L:iQ):lZ × List iV:=
 let a:=sF L L.mods 0 cs0
 if 0<a.2.length then(yF,a.2)else
   let s:=pK L 257 0 a.1
   if 0<s.bad.length then(yF,s.bad)else(⟨s.funs,s.main,s.sites⟩,[])
def qP:List (fF × fF)->Int->Bool
 |[],_=>true
 |s::l,n=>if 70000-n<s.2.size\/1000<s.1.size then false else qP l (n+s.2.size)
def tT:List (fF × fF)->Int
 |[]=>0
 |s::l=>s.2.size+tT l
def vE (l:List (fF × fF)):lZ × Bool:=
 if 20<l.length\/qP l 0=false\/5000<tT l then(yF,false)else
   let x:=yf l
   if 0<x.2.length then(yF,false)else
     let r:=Ac x.1
     (r.1,decide (r.2.length=0))
def Tq:MC:=(λx(_:x=gC tt [] [] [] (iR 0 (gB Tryz.f161)))=>x) _ (by dsimp[Tryz.f161])
def Tt:MC:=(λx(_:x=gC tt [] [] [(0,Tq)] (gB Tryz.f161))=>x) _ (by dsimp[Tryz.f161])
theorem zkM:WT Pg 161 31 Tt [.tmp 4]:=wT gz Tryz.func161 (by kernel_rfl)
def Tu:MC:=(λx(_:x=gC tt [] [] [] (gB Tryz.f129))=>x) _ (by dsimp[Tryz.f129])
theorem zkN:WT Pg 129 5 Tu [.tmp 2]:=wT gz Tryz.func129 (by kernel_rfl)
def Tv:MC:=(λx(_:x=gC tt [] [] [] (gB Tryz.f128))=>x) _ (by dsimp[Tryz.f128])
theorem ziU:WT Pg 128 5 Tv [.tmp 2]:=wT gz Tryz.func128 (by kernel_rfl)
def Tw:MC:=(λx(_:x=gC tt [] [] [] (iR 0 (gB Tryz.f160)))=>x) _ (by dsimp[Tryz.f160])
def Ij:MC:=(λx(_:x=gC tt [] [] [(0,Tw)] (gB Tryz.f160))=>x) _ (by dsimp[Tryz.f160])
theorem MM:WT Pg 160 31 Ij [.tmp 4]:=wT gz Tryz.func160 (by kernel_rfl)
def MN:MC:=(λx(_:x=gC tt [] [(6,[0,1,0,7,15,0,32,0,224,480,1023])] [] (iR 0 (gB Tryz.f77)))=>x) _ (by dsimp[Tryz.f77])
def MP:MC:=(λx(_:x=gC tt [] [(11,[0,1,0,7,15,0,32,0,224,480,1023,2047])] [] (iR 2 (gB Tryz.f77)))=>x) _ (by dsimp[Tryz.f77])
def Tx:MC:=(λx(_:x=gC tt [] [] [(0,MN),(2,MP)] (gB Tryz.f77))=>x) _ (by dsimp[Tryz.f77])
theorem zkO:WT Pg 77 76 Tx [.tmp 4]:=wT gz Tryz.func77 (by kernel_rfl)
def Tz:MC:=(λx(_:x=gC tt [] [] [] (gB Tryz.f76))=>x) _ (by dsimp[Tryz.f76])
theorem zkP:WT Pg 76 24 Tz [.cell 2 true 4,.tmp 3]:=wT gz Tryz.func76 (by kernel_rfl)
def MQ:MC:=(λx(_:x=gC tt [] [] [] (iR 1 (gB Tryz.f130)))=>x) _ (by dsimp[Tryz.f130])
def UA:MC:=(λx(_:x=gC tt [(4,50),(4,64),(6,1)] [] [(1,MQ)] (gB Tryz.f130))=>x) _ (by dsimp[Tryz.f130])
theorem zkQ:WT Pg 130 68 UA [.cell 2 true 4,.tmp 3]:=wT gz Tryz.func130 (by kernel_rfl)
def MS:MC:=(λx(_:x=gC tt [] [(9,[0,0,2,6,15,31,63,127,63,511,1023,63,63,6207,14399,32767,65535])] [] (iR 2 (gB Tryz.f162)))=>x) _ (by dsimp[Tryz.f162])
def UB:MC:=(λx(_:x=gC tt [] [(11,[0,1,3,7,7,23,55,127,255,511,1023,511,4095,8191,511,511,49663,115199,262143,524287,1048575])] [(2,MS)] (iR 0 (gB Tryz.f162)))=>x) _ (by dsimp[Tryz.f162])
def UC:MC:=(λx(_:x=gC tt [(6,0)] [] [(0,UB)] (gB Tryz.f162))=>x) _ (by dsimp[Tryz.f162])
theorem ziV:WT Pg 162 117 UC [.cell 4 true 4,.tmp 5]:=wT gz Tryz.func162 (by kernel_rfl)
def UD:MC:=(λx(_:x=gC tt [] [] [] (iR 0 (gB Tryz.f163)))=>x) _ (by dsimp[Tryz.f163])
def MU:MC:=(λx(_:x=gC tt [] [(20,[0,1,0,0,12,28,60,127,255,511]),(22,[0,0,3,7,0,16,0,64,192,448,1008,2032,4095,8191])] [] (iR 4 (gB Tryz.f163)))=>x) _ (by dsimp[Tryz.f163])
def UE:MC:=(λx(_:x=gC tt [] [] [(4,MU)] (iR 2 (gB Tryz.f163)))=>x) _ (by dsimp[Tryz.f163])
def UF:MC:=(λx(_:x=gC tt [(6,0),(6,2)] [(27,[0,0,2,6,14,1,63])] [(0,UD),(2,UE)] (gB Tryz.f163))=>x) _ (by dsimp[Tryz.f163])
theorem zjZ:WT Pg 163 102 UF [.cell 2 true 4,.tmp 3]:=wT gz Tryz.func163 (by kernel_rfl)
def UG:MC:=(λx(_:x=gC tt [] [] [] (gB Tryz.f152))=>x) _ (by dsimp[Tryz.f152])
theorem zlu:WT Pg 152 15 UG [.tmp 2]:=wT gz Tryz.func152 (by kernel_rfl)
def UH:MC:=(λx(_:x=gC tt [] [] [] (gB Tryz.f60))=>x) _ (by dsimp[Tryz.f60])
theorem zDl:WT Pg 60 22 UH [.tmp 2]:=wT gz Tryz.func60 (by kernel_rfl)
def MV:MC:=(λx(_:x=gC tt [] [(19,[0,0,2,0,14,30,63,127,0,256,0,1792,3840,7936,16383,32767])] [] (iR 1 (gB Tryz.f94)))=>x) _ (by dsimp[Tryz.f94])
def MW:MC:=(λx(_:x=gC tt [] [] [] (iR 3 (gB Tryz.f94)))=>x) _ (by dsimp[Tryz.f94])
def UI:MC:=(λx(_:x=gC tt [] [(22,[0,1,3,7,15,31,0,64,192,448,991,2047,4095])] [(1,MV),(3,MW)] (gB Tryz.f94))=>x) _ (by dsimp[Tryz.f94])
theorem zDm:WT Pg 94 90 UI [.tmp 4]:=wT gz Tryz.func94 (by kernel_rfl)
def UJ:MC:=(λx(_:x=gC tt [] [] [] (gB Tryz.f50))=>x) _ (by dsimp[Tryz.f50])
theorem ziW:WT Pg 50 19 UJ [.tmp 2]:=wT gz Tryz.func50 (by kernel_rfl)
def UK:MC:=(λx(_:x=gC tt [] [] [] (iR 0 (gB Tryz.f111)))=>x) _ (by dsimp[Tryz.f111])
def UL:MC:=(λx(_:x=gC tt [] [(17,[0,0,2,0,14,30,62,0,128,0,896,1920,4094,8190,16383,32767])] [] (iR 2 (gB Tryz.f111)))=>x) _ (by dsimp[Tryz.f111])
def MZ:MC:=(λx(_:x=gC tt [(6,0),(6,2)] [(13,[0,1,0,7,15,31])] [(0,UK),(2,UL)] (gB Tryz.f111))=>x) _ (by dsimp[Tryz.f111])
theorem UM:WT Pg 111 65 MZ [.tmp 2]:=wT gz Tryz.func111 (by kernel_rfl)
def UN:MC:=(λx(_:x=gC tt [] [] [] (iR 0 (gB Tryz.f132)))=>x) _ (by dsimp[Tryz.f132])
def UO:MC:=(λx(_:x=gC tt [] [] [(0,UN)] (gB Tryz.f132))=>x) _ (by dsimp[Tryz.f132])
theorem zkR:WT Pg 132 25 UO [.cell 4 true 6,.tmp 5]:=wT gz Tryz.func132 (by kernel_rfl)
def UQ:MC:=(λx(_:x=gC tt [] [] [] (iR 0 (gB Tryz.f133)))=>x) _ (by dsimp[Tryz.f133])
def UR:MC:=(λx(_:x=gC tt [] [] [(0,UQ)] (gB Tryz.f133))=>x) _ (by dsimp[Tryz.f133])
theorem zj0:WT Pg 133 27 UR [.cell 4 true 4,.tmp 5]:=wT gz Tryz.func133 (by kernel_rfl)
def M3:MC:=(λx(_:x=gC tt [] [(15,[0,0,2,6,0,30,62,127,255,511,511,0,3071,8191]),(16,[0,1,3,7,7,23,55,7,247,503,7,2047,4095,8191])] [] (iR 2 (gB Tryz.f80)))=>x) _ (by dsimp[Tryz.f80])
def UT:MC:=(λx(_:x=gC tt [] [(18,[0,1,3,7,15,31,63,127,255,15,527,1551,3599,15,16383,32767,65535,131071,262143,524287,1048575,131071,2228223,6422527,14811135,31588351,131071,134217727,268435455,536870911,1073741823])] [(2,M3)] (iR 0 (gB Tryz.f80)))=>x) _ (by dsimp[Tryz.f80])
def UU:MC:=(λx(_:x=gC tt [] [] [(0,UT)] (gB Tryz.f80))=>x) _ (by dsimp[Tryz.f80])
theorem zBY:WT Pg 80 123 UU [.tmp 6]:=wT gz Tryz.func80 (by kernel_rfl)
def UV:MC:=(λx(_:x=gC tt [] [] [] (gB Tryz.f92))=>x) _ (by dsimp[Tryz.f92])
theorem zEG:WT Pg 92 20 UV [.tmp 4]:=wT gz Tryz.func92 (by kernel_rfl)
def UW:MC:=(λx(_:x=gC tt [] [] [] (gB Tryz.f55))=>x) _ (by dsimp[Tryz.f55])
theorem zDn:WT Pg 55 20 UW [.tmp 4]:=wT gz Tryz.func55 (by kernel_rfl)
def UX:MC:=(λx(_:x=gC tt [] [] [] (iR 0 (gB Tryz.f139)))=>x) _ (by dsimp[Tryz.f139])
def UY:MC:=(λx(_:x=gC tt [(4,128),(6,0)] [] [(0,UX)] (gB Tryz.f139))=>x) _ (by dsimp[Tryz.f139])
theorem zDo:WT Pg 139 136 UY [.cell 4 true 4]:=wT gz Tryz.func139 (by kernel_rfl)
def UZ:MC:=(λx(_:x=gC tt [] [(18,[0,1,0,4,0,28,60,124,255,511,1023])] [] (iR 0 (gB Tryz.f138)))=>x) _ (by dsimp[Tryz.f138])
def U0:MC:=(λx(_:x=gC tt [(6,0)] [(3,[0,0,1,7]),(6,[0,0,1,7]),(7,[0,1,3,0,7,31]),(10,[0,0,1,7]),(12,[0,0,1,7]),(20,[0,1,0,4,12,28,3,127]),(21,[0,1,0,3,15])] [(0,UZ)] (gB Tryz.f138))=>x) _ (by dsimp[Tryz.f138])
theorem zAn:WT Pg 138 91 U0 [.cell 4 true 4,.cell 5 true 4]:=wT gz Tryz.func138 (by kernel_rfl)
def U1:MC:=(λx(_:x=gC tt [] [] [] (iR 0 (gB Tryz.f31)))=>x) _ (by dsimp[Tryz.f31])
def U2:MC:=(λx(_:x=gC tt [] [] [(0,U1)] (gB Tryz.f31))=>x) _ (by dsimp[Tryz.f31])
theorem zAo:WT Pg 31 19 U2 [.tmp 4]:=wT gz Tryz.func31 (by kernel_rfl)
def U3:MC:=(λx(_:x=gC tt [(3,46)] [(10,[0,1,0,0,12,28,60,127,255]),(11,[0,1,0,0,12,28,60,124,255,511,1023])] [] (iR 0 (gB Tryz.f28)))=>x) _ (by dsimp[Tryz.f28])
def U4:MC:=(λx(_:x=gC tt [(6,0)] [] [(0,U3)] (gB Tryz.f28))=>x) _ (by dsimp[Tryz.f28])
theorem zBZ:WT Pg 28 91 U4 [.cell 2 true 6,.tmp 3]:=wT gz Tryz.func28 (by kernel_rfl)
def U5:MC:=(λx(_:x=gC tt [] [] [] (iR 0 (gB Tryz.f48)))=>x) _ (by dsimp[Tryz.f48])
def U6:MC:=(λx(_:x=gC tt [] [] [(0,U5)] (gB Tryz.f48))=>x) _ (by dsimp[Tryz.f48])
theorem zDp:WT Pg 48 25 U6 [.cell 4 true 3,.tmp 5]:=wT gz Tryz.func48 (by kernel_rfl)
def U7:MC:=(λx(_:x=gC tt [] [] [] (iR 0 (gB Tryz.f32)))=>x) _ (by dsimp[Tryz.f32])
def U8:MC:=(λx(_:x=gC tt [] [] [(0,U7)] (gB Tryz.f32))=>x) _ (by dsimp[Tryz.f32])
theorem zDq:WT Pg 32 22 U8 [.tmp 4]:=wT gz Tryz.func32 (by kernel_rfl)
def U9:MC:=(λx(_:x=gC tt [(3,58)] [(9,[0,1,0,7,15,0,32,0,224,480,1023,2047])] [] (iR 0 (gB Tryz.f47)))=>x) _ (by dsimp[Tryz.f47])
def Ua:MC:=(λx(_:x=gC tt [(6,0),(7,1)] [(5,[0,0,2,1,15])] [(0,U9)] (gB Tryz.f47))=>x) _ (by dsimp[Tryz.f47])
theorem zxT:WM Pg 47 100 Ua [.tmp 8,.tmp 9]:=wM gz Tryz.func47 (by kernel_rfl)
def M4:MC:=(λx(_:x=gC tt [(9,47)] [(11,[0,0,0,4,0,28,60,0,255,511,1023,1023,2047,8191])] [] (iR 2 (gB Tryz.f29)))=>x) _ (by dsimp[Tryz.f29])
def M5:MC:=(λx(_:x=gC tt [(3,65)] [(19,[0,0,0,4,0,28,60,124,0,256,0,1792,3840,7936,16382,32766,65535,131071])] [] (iR 4 (gB Tryz.f29)))=>x) _ (by dsimp[Tryz.f29])
def Ub:MC:=(λx(_:x=gC tt [(4,98),(6,2)] [] [(2,M4),(4,M5)] (iR 0 (gB Tryz.f29)))=>x) _ (by dsimp[Tryz.f29])
def Uc:MC:=(λx(_:x=gC tt [(6,0)] [] [(0,Ub)] (gB Tryz.f29))=>x) _ (by dsimp[Tryz.f29])
theorem zAp:WT Pg 29 104 Uc [.tmp 2,.tmp 3]:=wT gz Tryz.func29 (by kernel_rfl)
def M6:MC:=(λx(_:x=gC tt [] [(13,[0,1,0,0,12,28,60,127,255])] [] (iR 4 (gB Tryz.f49)))=>x) _ (by dsimp[Tryz.f49])
def M7:MC:=(λx(_:x=gC tt [] [] [(4,M6)] (iR 2 (gB Tryz.f49)))=>x) _ (by dsimp[Tryz.f49])
def Ud:MC:=(λx(_:x=gC tt [] [] [(2,M7)] (iR 0 (gB Tryz.f49)))=>x) _ (by dsimp[Tryz.f49])
def Ue:MC:=(λx(_:x=gC tt [(1,16)] [] [(0,Ud)] (gB Tryz.f49))=>x) _ (by dsimp[Tryz.f49])
theorem zz0:WT Pg 49 69 Ue [.tmp 6]:=wT gz Tryz.func49 (by kernel_rfl)
def M8:MC:=(λx(_:x=gC tt [] [(9,[0,1,0,0,12,28,60,127,255]),(12,[0,0,0,0,12,28,60,0,0,384,896,1920,4094,8190,16383,32767])] [] (iR 2 (gB Tryz.f30)))=>x) _ (by dsimp[Tryz.f30])
def Uf:MC:=(λx(_:x=gC tt [] [] [(2,M8)] (iR 0 (gB Tryz.f30)))=>x) _ (by dsimp[Tryz.f30])
def Ug:MC:=(λx(_:x=gC tt [(6,0)] [] [(0,Uf)] (gB Tryz.f30))=>x) _ (by dsimp[Tryz.f30])
theorem zB0:WT Pg 30 61 Ug [.tmp 2]:=wT gz Tryz.func30 (by kernel_rfl)
def Uh:MC:=(λx(_:x=gC tt [] [(20,[0,0,0,4,0,16,62,126,1,511])] [] (gB Tryz.f16))=>x) _ (by dsimp[Tryz.f16])
theorem zDr:WT Pg 16 88 Uh [.cell 2 true 6,.tmp 3]:=wT gz Tryz.func16 (by kernel_rfl)
end Go.Gr
namespace Go.Gr
open Go.Abs Go.Proofs List
theorem Bd{t:gU}(o:DV.ok (.agg t.enc)):t.names.length<=zah/\t.kids.length<=zah:=by
 rw[gU.enc_eq]at o;simp only[DV.ok,D.okL,D.ok,Cc,aV]at o;exact⟨o.2.2.1.1,o.2.2.2.1.1⟩
@[simp] theorem gU.enc_g1(t:gU)(h:1<t.enc.length):t.enc[1]=.str t.name:=by have:=t.enc_1;rw[aA h]at this;exact bR this
mutual
theorem Ik:∀(t:gU) (m:Int),1<=nV t m/\nV t m<=max 1 m
|.mk _ _ _ l,m=>by have:=Il l m 1 (by omega);rw[nV];omega
theorem Il:∀(l:List gU) (m n:Int),1<=n->n<=qM l m n/\qM l m n<=max n m
|[],m,n,h=>by rw[qM];omega
| t::l,m,n,h=>by
 rw[qM];split
 ·have h1:=Ik t (m-n);have h2:=Il l m (n+nV t (m-n)) (by omega);omega
 ·omega
end
theorem zj9{l:List gU}{m n:Int}(h:¬n<m):qM l m n=n:=by
 cases l with
 |nil=>rw[qM]
 |cons d l=>rw[qM,aB h]
theorem zmV(t:gU)(ih:∀e,e∈t.kids->∀m:Int,1<=m->m<=1000->gY Pg 161 [.agg e.enc,.one (.int .i64 m)] (.one (.int .i64 (nV e m))))(m:Int)(h1:1<=m)(h2:m<=1000):
  gY Pg 161 [.agg t.enc,.one (.int .i64 m)] (.one (.int .i64 (nV t m))):=by
 refine zkM (by simp) λo c hN hp=>?_;have hf:=Bd o.1;unfold zah at hf;have e:nV t m=qM t.kids m 1:=by cases t;rw[nV];try rfl
 rw[e];unfold Tt;simp;refine fP gz hp (λx:Nat × Int=>x.1<=t.kids.length/\(1<=x.2/\x.2<=1000)/\qM (t.kids.drop x.1) m x.2=qM t.kids m 1) (λx=>[(6,.c (.d (.int .i64 x.1))),(5,.c (.d (.int .i64 x.2))),(2,.c (.d (.rp t.enc 0))),(1,.c (.d (.int .i64 m)))]) (λ_=>[]) (λx=>t.kids.length-x.1) (0,1) [] ⟨by simp,by simp,by simp⟩ (by simp) λ⟨j,n⟩ ⟨hx1,hx3,hx2⟩=>?_;unfold Tq;simp only at hx1 hx2 hx3;simp;apply gN<;>intro h
 ·have hj:j<t.kids.length:=by simpa using h
  rw[aG hj]at hx2;apply gN<;>intro h
  ·simp at h;rw[qM,aC h]at hx2;have hw:IntKind.i64.wrap (m-n)=m-n:=wI;simp[aA hj,hw];refine gT (ih _ (aO hj) (m-n) (by omega) (by omega)) ?_;have hle:=Ik t.kids[j] (m-n);simp;refine fG (j+1,n+nV t.kids[j] (m-n)) [] ⟨by simp;omega,by simp only;omega,hx2⟩ (by simp;omega) ?_;simp;exact⟨wI,wI⟩
  ·simp at h;rw[zj9 (by omega)]at hx2;simp[hx2]
 ·have hj:j=t.kids.length:=by simp at h;omega
  subst hj;rw[aQ,qM]at hx2;simp[hx2]
mutual
theorem Ui:∀(t:gU) (m:Int),1<=m->m<=1000->gY Pg 161 [.agg t.enc,.one (.int .i64 m)] (.one (.int .i64 (nV t m)))
|.mk k n s l,m,h1,h2=>zmV (.mk k n s l) (λe h=>Uj l e h) m h1 h2
theorem Uj:∀(l:List gU) (e:gU),e∈l->∀m:Int,1<=m->m<=1000->gY Pg 161 [.agg e.enc,.one (.int .i64 m)] (.one (.int .i64 (nV e m)))
|[],e,h=>by cases h
|d::l,e,h=>by
 cases h with
 |head=>exact Ui d
 |tail _ h=>exact Uj l e h
end
theorem M9(t:gU):gY Pg 129 [.agg t.enc] (.one (.int .i64 (nV t 201))):=by
 refine zkN (by simp) λo c hN hp=>?_;unfold Tu;simp;refine gT (Ui t 201 (by omega) (by omega)) ?_;simp
theorem Mc(f:gU->Int)(B:Int):∀(l:List gU) (a:Int),0<=a->a<=B->(∀x,x∈l->f x<=B)->0<=l.foldl (λh k=>if h<f k then f k else h) a/\l.foldl (λh k=>if h<f k then f k else h) a<=B
|[],a,h0,h,_=>⟨h0,h⟩
|x::l,a,h0,h,hl=>by
 have hx:=hl x (by simp);rw[foldl_cons];split
 ·exact Mc f B l _ (by omega) hx λy hy=>hl y (by simp[hy])
 ·exact Mc f B l _ h0 h λy hy=>hl y (by simp[hy])
theorem Uk:∀(n:Nat) (t:gU),1<=oD n t/\oD n t<=max 1 n
|0,t=>by rw[oD];omega
|1,t=>by rw[oD];omega
|n+2,t=>by
 rw[oD];have:=Mc (oD (n+1)) (n+1) t.kids 0 (by omega) (by omega) λx _=>by have:=Uk (n+1) x;omega
 omega
theorem Ul:∀(n:Nat) (t:gU),n<=100->gY Pg 160 [.agg t.enc,.one (.int .i64 n)] (.one (.int .i64 (oD n t)))
|0,t,hn=>by
 refine MM (by simp) λo c hN hp=>?_;unfold Ij;simp[oD]
|1,t,hn=>by
 refine MM (by simp) λo c hN hp=>?_;unfold Ij;simp[oD]
| n+2,t,hn=>by
 refine MM (by simp) λo c hN hp=>?_;have hf:=Bd o.1;unfold zah at hf;have e:oD (n+2) t=t.kids.foldl (λh k=>if h<oD (n+1) k then oD (n+1) k else h) 0+1:=by rw[oD]
 rw[e];obtain⟨R,hR⟩:∃R,t.kids.foldl (λh k=>if h<oD (n+1) k then oD (n+1) k else h) 0=R:=⟨_,rfl⟩
 rw[hR];unfold Ij;have hne:¬(((n+2:Nat):Int)<=1):=by omega
 have hne':¬((n:Int)+2<=1):=by omega
 have hw:IntKind.i64.wrap ((n:Int)+2-1)=((n+1:Nat):Int):=by rw[wI];omega
 simp[hne,hne'];refine fP gz hp (λx:Nat × Int=>x.1<=t.kids.length/\(0<=x.2/\x.2<=n+1)/\(t.kids.drop x.1).foldl (λh k=>if h<oD (n+1) k then oD (n+1) k else h) x.2=R) (λx=>[(6,.c (.d (.int .i64 x.1))),(5,.c (.d (.int .i64 x.2))),(1,.c (.d (.int .i64 (n+2:Nat)))),(2,.c (.d (.rp t.enc 0)))]) (λ_=>[]) (λx=>t.kids.length-x.1) (0,0) [] ⟨by simp,⟨by simp,by simp only;omega⟩,by simpa using hR⟩ (by simp) λ⟨j,r⟩ ⟨hx1,hx3,hx2⟩=>?_;unfold Tw;simp only at hx1 hx2 hx3;simp;apply gN<;>intro h
 ·have hj:j<t.kids.length:=by simpa using h
  rw[aG hj,foldl_cons]at hx2;simp[aA hj,hw];refine gT (Ul (n+1) t.kids[j] (by omega)) ?_;have hle:=Uk (n+1) t.kids[j];generalize oD (n+1) t.kids[j]=q at*
  by_cases hq:r<q
  ·rw[aC hq]at hx2;simp[hq];refine fG (j+1,q) [] ⟨by simp;omega,by simp only;omega,hx2⟩ (by simp;omega) ?_;simp;exact wI
  ·rw[aB hq]at hx2;simp[hq];refine fG (j+1,r) [] ⟨by simp;omega,by simp only;omega,hx2⟩ (by simp;omega) ?_;simp;exact wI
 ·have hj:j=t.kids.length:=by simp at h;omega
  subst hj;rw[aQ,foldl_nil]at hx2;subst hx2;exact wI
theorem FV(t:gU):gY Pg 128 [.agg t.enc] (.one (.int .i64 (oD 17 t))):=by
 refine ziU (by simp) λo c hN hp=>?_;unfold Tv;simp;refine gT (Ul 17 t (by omega)) ?_;simp
theorem Cu(t:gU):gY Pg 152 [.agg t.enc] (.one (.int .i64 (iJ t))):=by
 refine zlu (by simp) λo c hN hp=>?_;unfold UG iJ;by_cases h1:t.kind=1
 ·simp[h1];exact wI
 by_cases h2:t.kind=2
 ·simp[h2];exact wI
 by_cases h3:t.kind=3
 ·simp[h3];exact wI
 by_cases h4:t.kind=4
 ·simp[h4];exact wI
 by_cases h5:t.kind=5
 ·simp[h5];exact wI
 by_cases h6:t.kind=6
 ·simp[h6];exact wI
 rw[aC (by omega)];simp[h1,h2,h3,h4,h5,h6]
theorem FW:∀(a b:List gU),qd a b=lL lC a b
|[],[]=>rfl
|[],_::_=>rfl
|_::_,[]=>rfl
|x::a,y::b=>by rw[qd,lL,FW a b]
theorem Md(a b:gU):lC a b=(decide (a.kind=b.kind)&&(decide (a.name=b.name)&&(decide (a.names=b.names)&&lL lC a.kids b.kids))):=by
 cases a;rw[lC,FW];try rfl
theorem Cv{α:Type}{q:α->α->Bool}:∀{a b:List α},lL q a b=true->a.length=b.length
|[],[],_=>rfl
|[],_::_,h=>by cases h
|_::_,[],h=>by cases h
|x::a,y::b,h=>by
 rw[lL,aF]at h;simp[Cv h.2]
theorem zmW{α:Type}{a b:List α}{j:Nat}(h1:j<a.length)(h2:j<b.length)(h:a.take j=b.take j)(e:a[j]=b[j]):a.take (j+1)=b.take (j+1):=by
 rw[aJ h1,aJ h2,h,e]
theorem zmX(a b:gU)(ih:∀x,x∈a.kids->∀y,gY Pg 77 [.agg x.enc,.agg y.enc] (.one (.bool (lC x y)))):gY Pg 77 [.agg a.enc,.agg b.enc] (.one (.bool (lC a b))):=by
 have e:=Md a b;refine zkO (by simp) λo c hN hp=>?_;have hf:=Bd o.1;unfold zah at hf;generalize lC a b=R at*
 have k2:∀{Q:Exit->St->Prop} {S:St} {g} {ms:List Nat} (hl:a.kids.length=b.kids.length) (h0:iM ms S [(6,.c (.d (.int .i64 0))),(3,.c (.d (.rp b.enc 0))),(2,.c (.d (.rp a.enc 0)))] []),
   (lL lC a.kids b.kids=false->∀T M n,Abs.look T 4=.c (.d (.bool false))->Q .ret ⟨T,M,n⟩)->(lL lC a.kids b.kids=true->∀T M n,Q (.exit 2) ⟨T,M,n⟩)->mV Pg c MP Q g S:=by
  intro Q S g ms hl h0 hn hy;refine fP gz hp (λj:Nat=>j<=a.kids.length/\lL lC (a.kids.drop j) (b.kids.drop j)=lL lC a.kids b.kids) (λj=>[(6,.c (.d (.int .i64 j))),(3,.c (.d (.rp b.enc 0))),(2,.c (.d (.rp a.enc 0)))]) (λ_=>[]) (λj=>a.kids.length-j) 0 ms ⟨by simp,by simp⟩ h0 λj ⟨h1,h2⟩=>?_;unfold MP;simp;apply gN<;>intro h
  ·have hj:j<a.kids.length:=by simpa using h
   have hj2:j<b.kids.length:=by omega
   rw[aG hj,aG hj2,lL]at h2;simp[aA hj,aA hj2];refine gT (ih _ (aO hj) _) ?_;generalize lC a.kids[j] b.kids[j]=q at*
   cases q with
   |true=>
    simp at h2;simp;refine⟨by decide,?_⟩;refine fG (j+1) [] ⟨by omega,h2⟩ (by omega) ?_;simp;exact wI
   |false=>
    simp at h2;simp;exact⟨by decide,hn h2 _ _ _ (by simp)⟩
  ·have hj:j=a.kids.length:=by simp at h;omega
   subst hj;rw[aQ,hl,aQ]at h2;exact hy h2.symm _ _ _
 have k1:∀{Q:Exit->St->Prop} {S:St} {g} {ms:List Nat} (hl:a.names.length=b.names.length) (h0:iM ms S [(5,.c (.d (.int .i64 0))),(3,.c (.d (.rp b.enc 0))),(2,.c (.d (.rp a.enc 0)))] []),
   (a.names≠b.names->∀T M n,Abs.look T 4=.c (.d (.bool false))->Q .ret ⟨T,M,n⟩)->(a.names=b.names->∀T M n,Abs.look T 2=.c (.d (.rp a.enc 0))->Abs.look T 3=.c (.d (.rp b.enc 0))->Q (.exit 0) ⟨T,M,n⟩)->mV Pg c MN Q g S:=by
  intro Q S g ms hl h0 hn hy;refine fP gz hp (λj:Nat=>j<=a.names.length/\a.names.take j=b.names.take j) (λj=>[(5,.c (.d (.int .i64 j))),(3,.c (.d (.rp b.enc 0))),(2,.c (.d (.rp a.enc 0)))]) (λ_=>[]) (λj=>a.names.length-j) 0 ms ⟨by simp,by simp⟩ h0 λj ⟨h1,h2⟩=>?_;unfold MN;simp;apply gN<;>intro h
  ·have hj:j<a.names.length:=by simpa using h
   have hj2:j<b.names.length:=by omega
   simp[aA hj,aA hj2];by_cases q:a.names[j]=b.names[j]
   ·simp[q];refine⟨by decide,?_⟩;refine fG (j+1) [] ⟨by omega,zmW hj hj2 h2 q⟩ (by omega) ?_;simp;exact wI
   ·simp[q];exact⟨by decide,hn (λz=>q (by simp[z])) _ _ _ (by simp)⟩
  ·have hj:j=a.names.length:=by simp at h;omega
   subst hj;rw[bO,hl,bO]at h2;exact hy h2 _ _ _ (by simp) (by simp)
 unfold Tx;by_cases q1:a.kind=b.kind;rotate_left
 ·simp[q1]at e;simp[q1,e]
 by_cases q2:a.name=b.name;rotate_left
 ·simp[q2]at e;simp[q1,q2,e]
 by_cases q3:a.names.length=b.names.length;rotate_left
 ·have:¬a.names=b.names:=λz=>q3 (by rw[z]);have q3':¬(a.names.length:Int)=b.names.length:=by omega
  simp[this]at e;simp[q1,q2,q3,q3',e]
 by_cases q4:a.kids.length=b.kids.length;rotate_left
 ·have:lL lC a.kids b.kids=false:=by
   cases h:lL lC a.kids b.kids with
   |false=>rfl
   |true=>exact absurd (Cv h) q4
  have q4':¬(a.kids.length:Int)=b.kids.length:=by omega
  simp[this]at e;simp[q1,q2,q3,q4,q4',e]
 simp[q1,q2,q3,q4];refine k1 q3 (ms:=[]) (by simp) (λhn T M n t4=>?_) (λhy T M n t2 t3=>?_)
 ·simp[hn]at e;simp[t4,e]
 ·simp[q1,q2,hy]at e;simp;refine k2 q4 (ms:=[]) (by simp[t2,t3]) (λhn T M n t4=>?_) (λhy T M n=>?_)
  ·rw[hn]at e;simp[t4,e]
  ·rw[hy]at e;simp[e]
mutual
theorem EH:∀(a b:gU),gY Pg 77 [.agg a.enc,.agg b.enc] (.one (.bool (lC a b)))
|.mk k n s l,b=>zmX _ b λx hx y=>Um l x hx y
theorem Um:∀(l:List gU) (x:gU),x∈l->∀y,gY Pg 77 [.agg x.enc,.agg y.enc] (.one (.bool (lC x y)))
|c::l,x,h,y=>by
 cases aN.1 h with
 |inl e=>rw[e];exact EH c y
 |inr e=>exact Um l x e y
end
theorem Me(s:fF):∀l,jb s l<=l.length
|[]=>aP _
|n::l=>by have:=Me s l;unfold jb;split<;>simp<;>omega
abbrev uH:Blk:=.box [.d (.int .i64 0),.d (.str (bs [])),.d (.sl true 1 []),.d (.sl true 4 [])]
abbrev x9(ns:List fF)(ts:List gU)(i:Nat):List (Nat × AV):=[(7,.c (.d (.int .i64 i))),(6,.c (.ptr 1 0)),(4,.c (.ptr 0 0)),(1,.c (.d (.sl false 4 (ts.map gU.enc)))),(0,.c (.d (.sl false 1 (encS ns))))]
abbrev ug(ns:List fF)(ks:List gU):List Blk:=[uH,.box [.d (.int .i64 5),.d (.str (bs [])),.msl 1 2 0 ns.length,.msl 4 3 0 ks.length],.arr 1 ((encS ns).map (·.map .d)),.arr 4 ((ks.map gU.enc).map (·.map .d))]
theorem znO{c:Ctx}(hp:c.pure)(ns:List fF)(ts:List gU)(i:Nat)(hi:i<ns.length)(ok:Bool)(ms:List fF)(ks:List gU)(hms:ms.length<=100){Q:Exit->St->Prop}{S:St}{g}{l:List Nat}
  (h0:iM l S ((9,.c (.d (.int .i64 0)))::(8,.c (.d (.bool ok)))::x9 ns ts i) (ug ms ks))
  (hQ:∀T,Abs.look T 9=.c (.d (.int .i64 (jb ns[i] ms)))->Abs.look T 8=.c (.d (.bool ok))->Abs.look T 7=.c (.d (.int .i64 i))->Abs.look T 6=.c (.ptr 1 0)->Abs.look T 4=.c (.ptr 0 0)->Abs.look T 1=.c (.d (.sl false 4 (ts.map gU.enc)))->Abs.look T 0=.c (.d (.sl false 1 (encS ns)))->Q (.exit 2) ⟨T,hpOf (ug ms ks),4⟩):mV Pg c MS Q g S:=by
 refine fP gz hp (λk:Nat=>k<=ms.length/\k+jb ns[i] (ms.drop k)=jb ns[i] ms) (λk=>(9,.c (.d (.int .i64 k)))::(8,.c (.d (.bool ok)))::x9 ns ts i) (λ_=>ug ms ks) (λk=>ms.length-k) 0 l ⟨by simp,by simp⟩ h0 λk ⟨h1,h2⟩=>?_;unfold MS;simp;apply gN<;>intro h
 ·have hk:k<ms.length:=by simpa using h
  rw[aG hk,jb]at h2;simp[aA hk,aA hi];refine⟨hk,by decide,?_⟩;apply gN<;>intro h
  ·rw[aC (by unfold EE;exact h)]at h2;refine fG (k+1) [0,1,2,3] ⟨by omega,by omega⟩ (by omega) ?_;simp;exact wI
  ·rw[aB (by unfold EE;simpa using h)]at h2;exact hQ _ (by simp;omega) (by simp) (by simp) (by simp) (by simp) (by simp) (by simp)
 ·have hk:k=ms.length:=by simp at h;omega
  subst hk;rw[aQ,jb]at h2;simp;exact⟨by decide,hQ _ (by simp;omega) (by simp) (by simp) (by simp) (by simp) (by simp) (by simp)⟩
theorem Mf(ms:List fF)(ks:List gU):gU.enc (.mk 5 (bs []) ms ks)=[.int .i64 5,.str (bs []),.sl false 1 (encS ms),.sl false 4 (ks.map gU.enc)]:=by rw[gU.enc_eq];try rfl
theorem vZ(ks:List gU):take ks.length (List.map ((λx=>List.map AC.d x)∘gU.enc) ks)=List.map ((λx=>List.map AC.d x)∘gU.enc) ks:=aD (by simp)
theorem znP(ms:List fF):take ms.length (List.map (λx=>List.map AC.d x) (encS ms))=List.map (λx=>List.map AC.d x) (encS ms):=aD (by simp)
theorem mid{α:Type}{l:List α}{k n:Nat}(hn:n=l.length)(hk:k<=l.length)(x:α):take (k+1) (take k (take k l)++[x])++take (n-k) (drop k l)=take k l++x::drop k l:=by
 subst hn;rw[aD (l:=take k (take k l)++[x]) (by simp;omega),aD (l:=drop k l) (by simp),take_take,dz,bI];rfl
theorem Im{ks:List gU}{L:List (List AC)}(h:∀x,x∈L->x∈List.map ((λx=>List.map AC.d x)∘gU.enc) ks)(n:Nat):∀x,x∈L->AC.lts n x=true:=λx hx=>by
 obtain⟨t,_,rfl⟩:=aY.1 (h x hx);simp
theorem Mg(ns:List fF)(ts:List gU):gY Pg 162 [.one (.sl false 1 (encS ns)),.one (.sl false 4 (ts.map gU.enc))] (.tup [.agg (y8 ns ts).1.enc,.one (.bool (y8 ns ts).2)]):=by
 refine ziV (by simp) λo c hN hp=>?_;have hb:gU.enc (.mk 5 (bs []) [] [])=[.int .i64 5,.str (bs []),.sl false 1 [],.sl false 4 []]:=rfl;obtain⟨R,hR⟩:∃R,y8 ns ts=R:=⟨_,rfl⟩
 rw[hR];unfold y8 at hR;unfold UC;by_cases h1:ns.length=ts.length;rotate_left
 ·have h1':¬(ns.length:Int)=ts.length:=by omega
  rw[aC (.inl h1)]at hR;subst hR;simp[h1,h1',hb]
 by_cases h2:16<ns.length
 ·have h2':(16:Int)<ns.length:=by omega
  have h2'':(16:Int)<ts.length:=by omega
  rw[aC (.inr h2)]at hR;subst hR;simp[h1,h2',h2'',hb]
 have h2':¬(16:Int)<ns.length:=by omega
 have h2'':¬(16:Int)<ts.length:=by omega
 rw[aB (by omega)]at hR;simp[h1,h2',h2''];refine fV [.c 1 2,.c 1 3] ?_;simp;refine fP gz hp (λx:Nat × List fF × List gU=>x.1<=ns.length/\x.2.1.length=x.2.2.length/\x.2.1.length<=x.1/\kG (ns.drop x.1) (ts.drop x.1) x.2.1 x.2.2=kG ns ts [] []) (λx=>x9 ns ts x.1) (λx=>ug x.2.1 x.2.2) (λx=>ns.length-x.1) (0,[],[]) [0,1,2,3] ⟨by simp,rfl,by simp,by simp⟩ (by simp[encS]) λ⟨i,ms,ks⟩ ⟨i1,i2,i3,i4⟩=>?_;unfold UB;simp only at i1 i2 i3 i4;simp;apply gN<;>intro h
 ·have hi:i<ns.length:=by simpa using h
  have ht:i<ts.length:=by omega
  rw[aG hi,aG ht,kG]at i4;simp[aA hi];refine gT (Ic _) ?_;simp;refine znO hp ns ts i hi (nE ns[i]) ms ks (by omega) (l:=[0,1,2,3]) (by simp) λT t9 t8 t7 t6 t4 t1 t0=>?_;have hpl:=Me ns[i] ms;generalize jb ns[i] ms=k at*
  simp[t9,t8,t7,t6];by_cases hn:nE ns[i]=true;rotate_left
  ·rw[aC (.inl (by simpa using hn))]at i4;rw[<-i4]at hR;subst hR;have z1:take ms.length (encS ms)=encS ms:=aD (by simp);have z2:take ks.length (List.map gU.enc ks)=List.map gU.enc ks:=aD (by simp);simp[hn,t4];refine⟨by decide,?_⟩;simp[z1,z2,Mf]
  have hks:k<=ks.length:=by omega
  have hmin:min k ms.length=k:=by omega
  have hmin2:min k ks.length=k:=by omega
  by_cases hk:k<ms.length
  ·by_cases he:ms[k]=ns[i]
   ·rw[aC (.inr (by rw[aA hk,he]))]at i4;rw[<-i4]at hR;subst hR;have z1:take ms.length (encS ms)=encS ms:=aD (by simp);have z2:take ks.length (List.map gU.enc ks)=List.map gU.enc ks:=aD (by simp);simp[hn,t4,t0,hk,aA hk,aA hi,he];refine⟨by decide,?_⟩;simp[z1,z2,Mf]
   ·rw[aB (by rw[aA hk];simp[hn,he])]at i4;simp[hn,t4,t0,t1,hk,aA hk,aA hi,aA ht,he,hmin,hmin2,hpl,hks];refine⟨by decide,by omega,by omega,by omega,by omega,by omega,by omega,?_⟩;refine fG (i+1,ms.take k++ns[i]::ms.drop k,ks.take k++ts[i]::ks.drop k) [0,1,6,9] ⟨by simp only;omega,by simp;omega,by simp;omega,i4⟩ (by simp only;omega) ?_;simp[t0,t1,t4,t6,t7];refine⟨wI,⟨by omega,by omega⟩,?_,mid (by simp) (by simp;omega) _,Im (λx hx=>bL hx) 4,Im (λx hx=>dE hx) 4⟩;rw[mid (l:=List.map (λx=>List.map AC.d x) (encS ms)) (by simp) (by simp;omega)];simp[encS,map_take,map_drop]
  ·have hk2:k=ms.length:=by omega
   rw[aB (by rw[aS (by omega)];simp[hn])]at i4;simp[hn,t4,t0,t1,hk,aA hi,aA ht,hmin,hmin2,hpl,hks];refine⟨by decide,by omega,by omega,by omega,by omega,by omega,by omega,?_⟩;refine fG (i+1,ms.take k++ns[i]::ms.drop k,ks.take k++ts[i]::ks.drop k) [0,1,6,9] ⟨by simp only;omega,by simp;omega,by simp;omega,i4⟩ (by simp only;omega) ?_;simp[t0,t1,t4,t6,t7];refine⟨wI,⟨by omega,by omega⟩,?_,mid (by simp) (by simp;omega) _,Im (λx hx=>bL hx) 4,Im (λx hx=>dE hx) 4⟩;rw[mid (l:=List.map (λx=>List.map AC.d x) (encS ms)) (by simp) (by simp;omega)];simp[encS,map_take,map_drop]
 ·have hi:i=ns.length:=by simp at h;omega
  subst hi;rw[aQ,kG]at i4;rotate_left
  ·intros;contradiction
  rw[<-i4]at hR;subst hR;have z1:take ms.length (List.map (λx=>List.map AC.d x) (encS ms))=List.map (λx=>List.map AC.d x) (encS ms):=znP ms;have z3:take ms.length (encS ms)=encS ms:=aD (by simp);have z4:take ks.length (List.map gU.enc ks)=List.map gU.enc ks:=aD (by simp);simp[z1,vZ,Mf,z3,z4]
theorem EI(ks:List gU):gU.enc (.mk 7 (bs []) [] ks)=[.int .i64 7,.str (bs []),.sl false 1 [],.sl false 4 (ks.map gU.enc)]:=by rw[gU.enc_eq];try rfl
mutual
theorem Mh:∀t:gU,lC t t=true
|.mk k n s l=>by rw[lC];simp[gU.kind,gU.name,gU.names,gU.kids,Un l]
theorem Un:∀l:List gU,qd l l=true
|[]=>rfl
|t::l=>by rw[qd,Mh t,Un l];try rfl
end
abbrev oM(l:List gU):Blk:=.arr 4 ((l.map gU.enc).map (·.map .d))
abbrev Ad(all ks:List gU):List Blk:=[uH,oM all,.box [.d (.int .i64 7),.d (.str (bs [])),.d (.sl true 1 []),.msl 4 3 0 ks.length],oM ks]
abbrev ve(all:List gU)(tag:Nat):List (Nat × AV):=[(7,.c (.d (.int .i64 tag))),(6,.c (.ptr 2 0)),(4,.c (.msl 4 1 0 all.length)),(2,.c (.ptr 0 0))]
theorem Mi(tag:Int):∀(l:List gU) (had:Bool) (ks:List gU),(jc tag l had ks).1.2.length<=ks.length+l.length
|[],had,ks=>by simp[jc]
| x::l,had,ks=>by
 have h:(if had=true then ks else ks++[x]).length<=ks.length+1:=by split<;>simp
 rw[jc];by_cases h0:x.kind=0
 ·rw[aC h0];simp
 rw[aB h0];by_cases h1:iJ x≠tag
 ·rw[aC h1];have:=Mi tag l had ks;rw[length_cons];omega
 rw[aB h1];simp only;generalize (if had=true then ks else ks++[x])=k2 at*
 split
 ·have:=Mi tag l true k2;rw[length_cons];omega
 ·rw[length_cons];simp only;omega
theorem zn0{c:Ctx}(hp:c.pure)(all:List gU)(hall:all.length<=1000000)(tag:Nat)(htag:tag<6)(ks:List gU)(hks:ks.length<=10000000)(F0:(Bool × List gU) × Bool)(hF:jc tag all false ks=F0){Q:Exit->St->Prop}{S:St}{g}{ms:List Nat}
  (h0:iM ms S ((9,.c (.d (.int .i64 0)))::(8,.c (.d (.bool false)))::ve all tag) (Ad all ks))
  (hN:F0.2=false->∀T M n,Abs.look T 2=.c (.ptr 0 0)->Abs.look T 3=.c (.d (.bool false))->M 0=.box [.d (.int .i64 7),.d (.str (bs [])),.d (.sl true 1 []),.msl 4 3 0 F0.1.2.length]->M 3=oM F0.1.2->Q .ret ⟨T,M,n⟩)
  (hQ:F0.2=true->∀T,Abs.look T 7=.c (.d (.int .i64 tag))->Abs.look T 6=.c (.ptr 2 0)->Abs.look T 4=.c (.msl 4 1 0 all.length)->Abs.look T 2=.c (.ptr 0 0)->Q (.exit 4) ⟨T,hpOf (Ad all F0.1.2),4⟩):mV Pg c MU Q g S:=by
 refine fP gz hp (λx:Nat × Bool × List gU=>x.1<=all.length/\x.2.2.length<=ks.length+x.1/\(x.2.1=true->x.2.2≠[])/\jc tag (all.drop x.1) x.2.1 x.2.2=F0) (λx=>(9,.c (.d (.int .i64 x.1)))::(8,.c (.d (.bool x.2.1)))::ve all tag) (λx=>Ad all x.2.2) (λx=>all.length-x.1) (0,false,ks) ms ⟨by simp,by simp,by simp,by simpa using hF⟩ h0 λ⟨i,had,l⟩ ⟨h1,h2,h3,h4⟩=>?_;unfold MU;simp only at h1 h2 h3 h4;simp;apply gN<;>intro h
 ·have hi:i<all.length:=by simpa using h
  rw[aG hi,jc]at h4;obtain⟨x,hx⟩:∃x,all[i]=x:=⟨_,rfl⟩
  have hg:all[i]?=some x:=by rw[aA hi,hx]
  rw[hx]at h4;simp[hi,hx,hg];by_cases k0:x.kind=0
  ·rw[aC k0]at h4;subst h4;simp[k0];exact hN rfl _ _ _ (by simp) (by simp) (by simp) (by simp)
  rw[aB k0]at h4;simp[k0,hi,hx,hg];refine gT (Cu x) ?_;by_cases kt:iJ x=tag;rotate_left
  ·rw[aC kt]at h4;simp[kt];refine fG (i+1,had,l) [0,1,2,3] ⟨by simp only;omega,by simp only;omega,h3,h4⟩ (by simp only;omega) ?_;simp;exact wI
  rw[aB (λz=>z kt)]at h4;cases had with
  |false=>
   simp only[af,if_false,getLastD_concat]at h4;have hw:IntKind.i64.wrap ((l.length:Int)+1-1)=(l.length:Int):=by rw[wI];omega
   have z:take l.length (List.map ((λx=>List.map AC.d x)∘gU.enc) l)=List.map ((λx=>List.map AC.d x)∘gU.enc) l:=vZ l;have hwl:IntKind.i64.wrap (l.length:Int)=(l.length:Int):=wI;have g:(List.map ((λx=>List.map AC.d x)∘gU.enc) l++[List.map AC.d x.enc])[l.length]?=some (List.map AC.d x.enc):=by simp
   simp[kt,hi,hx,hg,hwl,z,g];refine⟨by omega,by decide,by omega,?_⟩;refine gT (EH _ _) ?_;have hs:=Mh x;rw[aC hs]at h4;simp[hs];refine⟨by decide,?_⟩;refine fG (i+1,true,l++[x]) [0,1,2,4] ⟨by simp only;omega,by simp;omega,by simp,h4⟩ (by simp only;omega) ?_;simp;exact wI
  | true=>
   have hne:=h3 rfl;simp only[if_true]at h4;have hlp:0<l.length:=List.length_pos_iff.2 hne;have hw:IntKind.i64.wrap ((l.length:Int)-1)=((l.length-1:Nat):Int):=by rw[wI];omega
   have hlast:l.getLastD noT=l[l.length-1]:=by
    rw[getLastD_eq_getLast?,getLast?_eq_getElem?,aA (by omega)];try rfl
   rw[hlast]at h4;have hlt:l.length-1<l.length:=by omega
   simp[kt,hi,hx,hg,hw,aA hlt,hlt];refine gT (EH _ _) ?_;by_cases hs:lC x l[l.length-1]=true
   ·rw[aC hs]at h4;simp[hs];refine⟨by decide,?_⟩;refine fG (i+1,true,l) [0,1,2,3] ⟨by simp only;omega,by simp only;omega,λ_=>hne,h4⟩ (by simp only;omega) ?_;simp;exact wI
   ·rw[aB hs]at h4;subst h4;simp[hs];refine⟨by decide,?_⟩;exact hN rfl _ _ _ (by simp) (by simp) (by simp) (by simp)
 ·have hi:i=all.length:=by simp at h;omega
  subst hi;rw[aQ,jc]at h4;subst h4;exact hQ rfl _ (by simp) (by simp) (by simp) (by simp)
def Be(i:Nat):List Int:=[0,1,2,3,4,5].drop i
theorem Uo{i:Nat}(h:i<6):Be i=(i:Int)::Be (i+1):=by
 have:∀i:Fin 6,Be i.val=((i.val:Nat):Int)::Be (i.val+1):=by decide
 exact this ⟨i,h⟩
theorem Mj(kids:List gU)(hk:(kids.flatMap ik).length<=1000000)(hkl:kids.length<=1000000):gY Pg 163 [.one (.sl false 4 (kids.map gU.enc))] (.tup [.agg (zS kids).1.enc,.one (.bool (zS kids).2)]):=by
 refine zjZ (by simp) λo c hN hp=>?_;obtain⟨R,hR⟩:∃R,zS kids=R:=⟨_,rfl⟩
 rw[hR];unfold zS at hR;simp only at hR;obtain⟨all,hal⟩:∃all,kids.flatMap ik=all:=⟨_,rfl⟩
 rw[hal]at hR hk;unfold UF;simp;refine fV [.t 4] ?_;simp;refine fP gz hp (λx:Nat × List gU=>x.1<=kids.length/\x.2++(kids.drop x.1).flatMap ik=all) (λx=>[(5,.c (.d (.int .i64 x.1))),(4,.c (.msl 4 1 0 x.2.length)),(2,.c (.ptr 0 0)),(0,.c (.d (.sl false 4 (kids.map gU.enc))))]) (λx=>[uH,oM x.2]) (λx=>kids.length-x.1) (0,[]) [0,1] ⟨by simp,by simpa using hal⟩ (by simp) λ⟨j,l⟩ ⟨h1,h2⟩=>?_;unfold UD;simp only at h1 h2;simp;apply gN<;>intro h
 ·have hj:j<kids.length:=by simpa using h
  obtain⟨x,hx⟩:∃x,kids[j]=x:=⟨_,rfl⟩
  have hg:kids[j]?=some x:=by rw[aA hj,hx]
  rw[aG hj,hx,flatMap_cons,<-bI]at h2;have hll:=dL length h2;rw[aT,aT]at hll;by_cases k7:x.kind=7
  ·have hm:ik x=x.kids:=by unfold ik;rw[aC k7]
   rw[hm]at h2 hll;simp[hj,hx,hg,k7];refine⟨by omega,?_⟩;refine fG (j+1,l++x.kids) [0,2] ⟨by simp only;omega,h2⟩ (by simp only;omega) ?_;simp;exact⟨wI,vZ l⟩
  ·have hm:ik x=[x]:=by unfold ik;rw[aB k7]
   rw[hm]at h2 hll;simp only[length_singleton]at hll;simp[hj,hx,hg,k7];refine⟨by omega,?_⟩;refine fG (j+1,l++[x]) [0,2] ⟨by simp only;omega,h2⟩ (by simp only;omega) ?_;simp;exact⟨wI,vZ l⟩
 ·have hj:j=kids.length:=by simp at h;omega
  subst hj;rw[aQ,flatMap_nil,bM]at h2;subst h2;simp;refine fV [.c 2 3] ?_;simp;refine fP gz hp (λx:Nat × List gU=>x.1<=6/\x.2.length<=x.1*l.length/\qf l (Be x.1) x.2=qf l [0,1,2,3,4,5] []) (λx=>ve l x.1) (λx=>Ad l x.2) (λx=>6-x.1) (0,[]) [0,1,2,3] ⟨by simp,by simp,rfl⟩ (by simp) λ⟨t,ks⟩ ⟨i1,i2,i3⟩=>?_;unfold UE;simp only at i1 i2 i3;simp;have hmul:t*l.length<=6*1000000:=Nat.mul_le_mul i1 hk;have htl:=Mi t l false ks;apply gN<;>intro h
  ·have ht:t<6:=by simp at h;omega
   rw[Uo ht,qf]at i3;refine zn0 hp l hk t ht ks (by omega) _ rfl (ms:=[0,1,2,3]) (by simp) (λhf T M n t2 t3 m0 m3=>?_) (λhf T t7 t6 t4 t2=>?_)
   ·rw[aB (by rw[hf];simp)]at i3;rw[<-i3]at hR;simp at hR;subst hR;simp[t2,t3,m0,m3,EI];exact aD (by simp)
   ·rw[aC hf]at i3;simp[t7];refine fG (t+1,(jc t l false ks).1.2) [0,1,2,3] ⟨by simp only;omega,by simp only;rw[bB];omega,i3⟩ (by simp only;omega) ?_;simp[t7,t6,t4,t2];exact wI
  ·have ht:t=6:=by simp at h;omega
   subst ht;rw[show Be 6=[]from rfl,qf]at i3;rw[<-i3]at hR;simp only[if_true]at hR;have z4:take ks.length (List.map gU.enc ks)=List.map gU.enc ks:=aD (by simp)
   match ks,i2,hR,z4 with
   |[],i2,hR,z4=>
    simp at hR;subst hR;simp;exact⟨by decide,by rw[EI];rfl⟩
   |[x],i2,hR,z4=>
    simp at hR;subst hR;simp;rw[gU.enc_eq];try rfl
   |x::y::l2,i2,hR,z4=>
    simp at hR;subst hR;have h1:¬((l2.length:Int)+1+1=1):=by omega
    have h2:¬(l2.length+1+1=1):=by omega
    have h3:(0:Int)<(l2.length:Int)+1+1:=by omega
    simp[h1,h2,h3];exact⟨by decide,by rw[EI,aD (by simp)];rfl⟩
mutual
def lG:gU->Prop
|.mk _ _ _ l=>l.length<=200/\qz l
def qz:List gU->Prop
|[]=>True
|t::l=>lG t/\qz l
end
mutual
theorem FX:∀(t:gU) (m:Int),m<=201->nV t m<m->lG t
|.mk k n s l,m,h1,h2=>by
 rw[nV]at h2;have:=Uq l m 1 h1 (by omega) h2;rw[lG];exact⟨by omega,this.2⟩
theorem Uq:∀(l:List gU) (m n:Int),m<=201->1<=n->qM l m n<m->n+l.length<=qM l m n/\qz l
|[],m,n,_,_,h=>by rw[qM]at*;exact⟨by simp,trivial⟩
| t::l,m,n,h1,h2,h3=>by
 have hle:=Ik t (m-n);rw[qM]at h3⊢;split
 ·rename_i q;rw[aC q]at h3;have i:=Uq l m (n+nV t (m-n)) h1 (by omega) h3;have hle2:=Il l m (n+nV t (m-n)) (by omega);rw[length_cons];exact⟨by omega,FX t (m-n) (by omega) (by omega),i.2⟩
 ·rename_i q;rw[aB q]at h3;omega
end
theorem Io:∀l:List gU,qz l↔∀x,x∈l->lG x
|[]=>by simp[qz]
|t::l=>by simp[qz,Io l]
theorem Mk(tag:Int):∀(l:List gU) (had:Bool) (ks:List gU),(jc tag l had ks).1.2.length<=ks.length+(if had=true then 0 else 1)
|[],had,ks=>by simp[jc]
| x::l,had,ks=>by
 have h:(if had=true then ks else ks++[x]).length<=ks.length+(if had=true then 0 else 1):=by cases had<;>simp
 rw[jc];by_cases h0:x.kind=0
 ·rw[aC h0];simp
 rw[aB h0];by_cases h1:iJ x≠tag
 ·rw[aC h1];exact Mk tag l had ks
 rw[aB h1];simp only;generalize (if had=true then ks else ks++[x])=k2 at*
 split
 ·have:=Mk tag l true k2;simp only[if_true]at this;omega
 ·exact h
theorem Ml(tag:Int):∀(l:List gU) (had:Bool) (ks:List gU) (y:gU),y∈(jc tag l had ks).1.2->y∈ks\/(y∈l/\iJ y=tag)
|[],had,ks,y,h=>by simp[jc]at h;exact .inl h
| x::l,had,ks,y,h=>by
 have h2:∀z,z∈(if had=true then ks else ks++[x])->z∈ks\/z=x:=λz hz=>by cases had<;>simp at hz<;>simp[hz]
 rw[jc]at h;by_cases h0:x.kind=0
 ·rw[aC h0]at h;exact .inl h
 rw[aB h0]at h;by_cases h1:iJ x≠tag
 ·rw[aC h1]at h;rcases Ml tag l had ks y h with q|⟨q,r⟩
  ·exact .inl q
  ·exact .inr ⟨by simp[q],r⟩
 rw[aB h1]at h;have hx:iJ x=tag:=bD h1;simp only at h;generalize (if had=true then ks else ks++[x])=k2 at*
 have fin:y∈k2->y∈ks\/(y∈x::l/\iJ y=tag):=λhy=>by
  rcases h2 y hy with q|rfl
  ·exact .inl q
  ·exact .inr ⟨by simp,hx⟩
 split at h
 ·rcases Ml tag l true k2 y h with q|⟨q,r⟩
  ·exact fin q
  ·exact .inr ⟨by simp[q],r⟩
 ·exact fin h
theorem Mm(all:List gU):∀(l:List Int) (ks:List gU),(qf all l ks).1.length<=ks.length+l.length
|[],ks=>by simp[qf]
| t::l,ks=>by
 have h1:=Mk t all false ks;simp only[af,if_false]at h1;rw[qf,length_cons];split
 ·have:=Mm all l (jc t all false ks).1.2;omega
 ·simp only;omega
theorem Ip(all:List gU):∀(l:List Int) (ks:List gU) (y:gU),y∈(qf all l ks).1->y∈ks\/(y∈all/\iJ y∈l)
|[],ks,y,h=>by simp[qf]at h;exact .inl h
| t::l,ks,y,h=>by
 rw[qf]at h;have fin:y∈(jc t all false ks).1.2->y∈ks\/(y∈all/\iJ y∈t::l):=λhy=>by
  rcases Ml t all false ks y hy with q|⟨q,r⟩
  ·exact .inl q
  ·exact .inr ⟨q,by simp[r]⟩
 split at h
 ·rcases Ip all l _ y h with q|⟨q,r⟩
  ·exact fin q
  ·exact .inr ⟨q,by simp[r]⟩
 ·exact fin h
theorem zlM(t:gU):(ik (ll t).1).length<=6:=by
 have one:∀x:gU,x.kind≠7->(ik x).length<=6:=λx h=>by unfold ik;rw[aB h];simp
 cases t with
 |mk k n s l=>
 rw[ll];split
 ·split
  ·unfold oK;split
   ·refine one _ ?_;unfold y8;split<;>simp[gU.kind]
   split
   ·exact one _ (by simp[gU.kind])
   ·unfold zS;have hl:=Mm ((kV l).1.flatMap ik) [0,1,2,3,4,5] [];have hm:=Ip ((kV l).1.flatMap ik) [0,1,2,3,4,5] [];simp only;generalize qf ((kV l).1.flatMap ik) [0,1,2,3,4,5] []=r at*
    have seven:∀l:List gU,l.length<=6->(ik (.mk 7 (bs []) [] l)).length<=6:=λl h=>by unfold ik;exact h
    split
    ·split
     ·rename_i x e;have:=hm x (by rw[e];simp);refine one _ λh7=>?_;have h7:x.kind=7:=h7;have hb:iJ x= -1:=by unfold iJ;rw[aC (by omega)]
      rw[hb]at this;simp at this
     ·rename_i e;exact seven _ (by simpa using hl)
    ·exact seven _ (by simpa using hl)
  ·exact one _ (by simp[noT,gU.kind])
 ·split
  ·refine one _ ?_;show k≠7;omega
  ·exact one _ (by simp[noT,gU.kind])
theorem Ur:∀l:List gU,(kV l).1.length<=l.length
|[]=>by simp[kV]
|t::l=>by
 have:=Ur l;rw[kV];split<;>simp;omega
theorem Us:∀l:List gU,((kV l).1.flatMap ik).length<=6*l.length
|[]=>by simp[kV]
|t::l=>by
 have h1:=Us l;have h2:=zlM t;rw[kV];split
 ·rw[flatMap_cons,aT,length_cons];omega
 ·simp
theorem zmN(t:gU):ll t=if 5<=t.kind/\t.kind<=7 then(if(kV t.kids).2=true then oK t.kind t.names (kV t.kids).1 else(noT,false))else if 0<=t.kind/\t.kind<=4 then(bT t.kind,true)else(noT,false):=by
 cases t;rw[ll];try rfl
def qQ(a:List gU)(l:List gU):List gU × Bool:=if(kV l).2=true then(a++(kV l).1,true)else([],false)
theorem zlN(a:List gU)(t:gU)(l:List gU):qQ a (t::l)=if(ll t).2=true then qQ (a++[(ll t).1]) l else([],false):=by
 unfold qQ;rw[kV];by_cases h:(ll t).2=true
 ·rw[aC h,aC h];by_cases h2:(kV l).2=true
  ·simp[h2]
  ·simp[h2]
 ·rw[aB h,aB h];simp
@[simp] theorem gU.er_map(t:gU):t.enc.map D.er=t.enc:=by rw[gU.enc_eq];try rfl
theorem vg(k:Int):(bT k).enc=[.int .i64 k,.str (bs []),.sl false 1 [],.sl false 4 []]:=by rw[gU.enc_eq];try rfl
theorem nR:noT.enc=[.int .i64 0,.str (bs []),.sl false 1 [],.sl false 4 []]:=rfl
abbrev yj(t:gU)(j n:Nat):List (Nat × AV):=[(5,.c (.d (.int .i64 j))),(4,.c (.msl 4 1 0 n)),(2,.c (.ptr 0 0)),(1,.c (.d (.rp t.enc 0)))]
theorem Cw{c:Ctx}(hp:c.pure)(t:gU)(hl:t.kids.length<=200)(ih:∀e,e∈t.kids->gY Pg 130 [.agg e.enc] (.tup [.agg (ll e).1.enc,.one (.bool (ll e).2)])){Q:Exit->St->Prop}{S:St}{g}{ms:List Nat}
  (h0:iM ms S (yj t 0 0) [uH,oM []])
  (hN:(kV t.kids).2=false->∀T M n,Abs.look T 2=.c (.ptr 0 0)->Abs.look T 3=.c (.d (.bool false))->M 0=uH->Q .ret ⟨T,M,n⟩)
  (hQ:(kV t.kids).2=true->∀T,Abs.look T 4=.c (.msl 4 1 0 (kV t.kids).1.length)->Abs.look T 2=.c (.ptr 0 0)->Abs.look T 1=.c (.d (.rp t.enc 0))->Q (.exit 1) ⟨T,hpOf [uH,oM (kV t.kids).1],2⟩):mV Pg c MQ Q g S:=by
 have hA:qQ [] t.kids=if(kV t.kids).2=true then((kV t.kids).1,true)else([],false):=rfl;have hN:(qQ [] t.kids).2=false->∀T M n,Abs.look T 2=.c (.ptr 0 0)->Abs.look T 3=.c (.d (.bool false))->M 0=uH->Q .ret ⟨T,M,n⟩:=λh=>hN (by
  rw[hA]at h;cases e:(kV t.kids).2 with
  |false=>rfl
  |true=>rw[aC e]at h;cases h)
 have hQ:(qQ [] t.kids).2=true->∀T,Abs.look T 4=.c (.msl 4 1 0 (qQ [] t.kids).1.length)->Abs.look T 2=.c (.ptr 0 0)->Abs.look T 1=.c (.d (.rp t.enc 0))->Q (.exit 1) ⟨T,hpOf [uH,oM (qQ [] t.kids).1],2⟩:=λh=>by
  rw[hA]at h⊢;cases e:(kV t.kids).2 with
  |false=>rw[e]at h;cases h
  |true=>rw[aC rfl];exact hQ e
 obtain⟨F0,hF⟩:∃F0,qQ [] t.kids=F0:=⟨_,rfl⟩
 rw[hF]at hN hQ;refine fP gz hp (λx:Nat × List gU=>x.1<=t.kids.length/\x.2.length<=x.1/\qQ x.2 (t.kids.drop x.1)=F0) (λx=>yj t x.1 x.2.length) (λx=>[uH,oM x.2]) (λx=>t.kids.length-x.1) (0,[]) ms ⟨by simp,by simp,by simpa using hF⟩ h0 λ⟨j,a⟩ ⟨h1,h2,h3⟩=>?_;unfold MQ;simp only at h1 h2 h3;simp;apply gN<;>intro h
 ·have hj:j<t.kids.length:=by simpa using h
  rw[aG hj,zlN]at h3;obtain⟨x,hx⟩:∃x,t.kids[j]=x:=⟨_,rfl⟩
  have hm:=aO hj;rw[hx]at h3 hm;simp[hj,hx];refine gT (ih x hm) ?_;simp;by_cases q:(ll x).2=true
  ·rw[aC q]at h3;simp[q];refine⟨by omega,?_⟩;refine fG (j+1,a++[(ll x).1]) [0,3] ⟨by simp only;omega,by simp;omega,h3⟩ (by simp only;omega) ?_;simp;exact⟨wI,vZ a⟩
  ·rw[aB q]at h3;subst h3;simp[q];exact hN rfl _ _ _ (by simp) (by simp) (by simp)
 ·have hj:j=t.kids.length:=by simp at h;omega
  subst hj;rw[aQ]at h3;have e:qQ a []=(a,true):=by unfold qQ;simp[kV]
  rw[e]at h3;subst h3;exact hQ rfl _ (by simp) (by simp) (by simp)
theorem Mo(t:gU)(hl:t.kids.length<=200)(ih:∀e,e∈t.kids->gY Pg 130 [.agg e.enc] (.tup [.agg (ll e).1.enc,.one (.bool (ll e).2)])):
  gY Pg 130 [.agg t.enc] (.tup [.agg (ll t).1.enc,.one (.bool (ll t).2)]):=by
 refine zkQ (by simp) λo c hN hp=>?_;obtain⟨R,hR⟩:∃R,ll t=R:=⟨_,rfl⟩
 rw[hR];rw[zmN]at hR;unfold UA;by_cases k1:0<=t.kind/\t.kind<=4
 ·rw[aB (by omega),aC k1]at hR;subst hR;have hc:t.kind=0\/t.kind=1\/t.kind=2\/t.kind=3\/t.kind=4:=by omega
  rcases hc with k|k|k|k|k<;>simp[k,vg]
 by_cases k2:5<=t.kind/\t.kind<=7;rotate_left
 ·rw[aB k2,aB k1]at hR;subst hR;have a0:¬t.kind=0:=by omega
  have a1:¬t.kind=1:=by omega
  have a2:¬t.kind=2:=by omega
  have a3:¬t.kind=3:=by omega
  have a4:¬t.kind=4:=by omega
  have a5:¬t.kind=5:=by omega
  have a6:¬t.kind=6:=by omega
  have a7:¬t.kind=7:=by omega
  simp[a0,a1,a2,a3,a4,a5,a6,a7,nR]
 rw[aC k2]at hR;have hnl:=Ur t.kids;have hnm:=Us t.kids;have hk:∀K:Int,t.kind=K->(if(kV t.kids).2=true then oK K t.names (kV t.kids).1 else(noT,false))=R:=λK e=>by rw[<-e];exact hR
 have a0:¬t.kind=0:=by omega
 have a1:¬t.kind=1:=by omega
 have a2:¬t.kind=2:=by omega
 have a3:¬t.kind=3:=by omega
 have a4:¬t.kind=4:=by omega
 have hc:t.kind=5\/t.kind=6\/t.kind=7:=by omega
 rcases hc with k|k|k
 ·have hR:=hk 5 k;simp[k];refine fV [.t 4] ?_;simp;refine Cw hp t hl ih (ms:=[0,1]) (by simp) (λhf T M n t2 t3 m0=>?_) (λhf T t4 t2 t1=>?_)
  ·rw[aB (by rw[hf];simp)]at hR;subst hR;simp[t2,t3,m0,nR]
  ·rw[aC hf]at hR;generalize (kV t.kids).1=l at*
   simp[t1,k];refine fU [1] ?_;have z:take l.length (List.map gU.enc l)=List.map gU.enc l:=aD (by simp);simp[iZ,t4,t1,vZ,z];refine gT (Mg _ _) ?_;rw[show y8 t.names l=R by rw[<-hR];rfl];simp[iZ,t2]
 ·have hR:=hk 6 k;simp[k];refine fV [.t 4] ?_;simp;refine Cw hp t hl ih (ms:=[0,1]) (by simp) (λhf T M n t2 t3 m0=>?_) (λhf T t4 t2 t1=>?_)
  ·rw[aB (by rw[hf];simp)]at hR;subst hR;simp[t2,t3,m0,nR]
  ·rw[aC hf]at hR;generalize (kV t.kids).1=l at*
   have hR:(gU.mk 6 (bs []) [] l,decide (l.length=2))=R:=by rw[<-hR];try rfl
   subst hR;have z:take l.length (List.map gU.enc l)=List.map gU.enc l:=aD (by simp);have hd:decide ((l.length:Int)=2)=decide (l.length=2):=by
    by_cases h:l.length=2
    ·simp[h]
    ·have h':¬(l.length:Int)=2:=by omega
     simp[h,h']
   simp[t1,k,t4,t2];exact⟨by rw[z,gU.enc_eq];rfl,by omega⟩
 ·have hR:=hk 7 k;simp[k];refine fV [.t 4] ?_;simp;refine Cw hp t hl ih (ms:=[0,1]) (by simp) (λhf T M n t2 t3 m0=>?_) (λhf T t4 t2 t1=>?_)
  ·rw[aB (by rw[hf];simp)]at hR;subst hR;simp[t2,t3,m0,nR]
  ·rw[aC hf]at hR;have hu:=Mj (kV t.kids).1 (by omega) (by omega);generalize (kV t.kids).1=l at*
   have z:take l.length (List.map gU.enc l)=List.map gU.enc l:=aD (by simp);simp[t1,k];refine fU [1] ?_;simp[iZ,t4,t1,vZ,z];refine gT hu ?_;rw[show zS l=R by rw[<-hR];rfl];simp[iZ,t2]
mutual
theorem FY:∀t:gU,lG t->gY Pg 130 [.agg t.enc] (.tup [.agg (ll t).1.enc,.one (.bool (ll t).2)])
|.mk k n s l,h=>by
 rw[lG]at h;exact Mo (.mk k n s l) h.1 (λe he=>FZ l h.2 e he)
theorem FZ:∀l:List gU,qz l->∀e,e∈l->gY Pg 130 [.agg e.enc] (.tup [.agg (ll e).1.enc,.one (.bool (ll e).2)])
|[],_,e,h=>by cases h
|d::l,hf,e,h=>by
 rw[qz]at hf;cases h with
 |head=>exact FY d hf.1
 |tail _ h=>exact FZ l hf.2 e h
end
theorem Ae(t:gU):gY Pg 76 [.agg t.enc] (.tup [.agg (mO t).1.enc,.one (.int .i64 (mO t).2)]):=by
 refine zkP (by simp) λo c hN hp=>?_;obtain⟨R,hR⟩:∃R,mO t=R:=⟨_,rfl⟩
 rw[hR];unfold mO at hR;unfold Tz;simp;refine gT (FV t) ?_;by_cases h1:16<oD 17 t
 ·rw[aC (.inl h1)]at hR;subst hR;simp[h1,nR]
 simp[h1];refine gT (M9 t) ?_;by_cases h2:200<nV t 201
 ·rw[aC (.inr h2)]at hR;subst hR;simp[h2,nR]
 rw[aB (by omega)]at hR;have hf:=FX t 201 (by omega) (by omega);simp[h2];refine gT (FY t hf) ?_;by_cases h3:(ll t).2=true
 ·rw[aC h3]at hR;subst hR;simp[h3]
 ·rw[aB h3]at hR;subst hR;simp[h3,nR]
theorem Af(t:gU):gY Pg 50 [.agg t.enc] (.one (.bool (iE t))):=by
 refine ziW (by simp) λo c hN hp=>?_;unfold UJ iE;simp;refine gT (Ae t) ?_;generalize mO t=R;simp;refine gT (EH _ _) ?_;by_cases h:R.2=0
 ·simp[h]
 ·simp[h]
mutual
theorem Cx:∀(a b:gU),lC a b=true↔a=b
|.mk k n s l,.mk k' n' s' l'=>by
 rw[lC,aF,aF,aF,aI,aI,aI,F3,gU.mk.injEq];exact Iff.rfl
theorem F3:∀(a b:List gU),qd a b=true↔a=b
|[],[]=>by simp[qd]
|[],_::_=>by simp[qd]
|_::_,[]=>by simp[qd]
|a::l,b::k=>by
 simp only[qd,aF,dX];rw[Cx a b,F3 l k]
end
mutual
def jK:gU->Prop
|.mk k n s l=>n=bs []/\lU l/\((0<=k/\k<=4/\s=[]/\l=[])\/(k=5/\s.length=l.length/\s.length<=16/\∀x,x∈s->nE x=true)\/(k=6/\s=[]/\l.length=2)\/(k=7/\s=[]/\l.length<=6/\∀x,x∈l->1<=x.kind/\x.kind<=6))
def lU:List gU->Prop
|[]=>True
|t::l=>jK t/\lU l
end
theorem zZ:∀l:List gU,lU l↔∀x,x∈l->jK x
|[]=>by simp[lU]
|t::l=>by simp[lU,zZ l]
theorem mH(t:gU):jK t↔t.name=bs []/\(∀x,x∈t.kids->jK x)/\((0<=t.kind/\t.kind<=4/\t.names=[]/\t.kids=[])\/(t.kind=5/\t.names.length=t.kids.length/\t.names.length<=16/\∀x,x∈t.names->nE x=true)\/(t.kind=6/\t.names=[]/\t.kids.length=2)\/(t.kind=7/\t.names=[]/\t.kids.length<=6/\∀x,x∈t.kids->1<=x.kind/\x.kind<=6)):=by
 cases t;rw[jK,zZ];try rfl
theorem vk(k:Int)(h0:0<=k)(h4:k<=4):jK (bT k):=(mH _).2 ⟨rfl,λx h=>(by cases h),.inl ⟨h0,h4,rfl,rfl⟩⟩
theorem rU:jK noT:=vk 0 (by omega) (by omega)
theorem Mq:∀(ss:List fF) (ts:List gU) (ns:List fF) (ks:List gU),ss.length=ts.length->ns.length=ks.length->(∀x,x∈ns->nE x=true)->(kG ss ts ns ks).2=true->
 (kG ss ts ns ks).1.1.length=(kG ss ts ns ks).1.2.length/\(kG ss ts ns ks).1.1.length=ns.length+ss.length/\(∀x,x∈(kG ss ts ns ks).1.1->nE x=true)/\∀x,x∈(kG ss ts ns ks).1.2->x∈ks\/x∈ts
|[],ts,ns,ks,h0,h1,h2,h=>by
 cases ts with
 |nil=>rw[kG];exact⟨h1,rfl,h2,λx hx=>.inl hx⟩;all_goals (intros;contradiction)
 |cons _ _=>simp at h0
|s::ss,[],ns,ks,h0,h1,h2,h=>by simp at h0
| s ::ss,t::ts,ns,ks,h0,h1,h2,h=>by
 have hp:=Me s ns;rw[kG]at h⊢;by_cases q:nE s=false\/ns[jb s ns]?=some s
 ·rw[aC q]at h;cases h
 rw[aB q]at h⊢;have hs:nE s=true:=by
  cases e:nE s with
  |true=>rfl
  |false=>exact absurd (.inl e) q
 have i:=Mq ss ts (ns.take (jb s ns)++s::ns.drop (jb s ns)) (ks.take (jb s ns)++t::ks.drop (jb s ns)) (by simpa using h0) (by simp;omega) (λx hx=>by
  rcases aK.1 hx with hx|hx
  ·exact h2 x (bL hx)
  ·rcases aN.1 hx with rfl|hx
   ·exact hs
   ·exact h2 x (dE hx)) h
 refine⟨i.1,?_,i.2.2.1,λx hx=>?_⟩
 ·rw[i.2.1];simp;omega
 ·rcases i.2.2.2 x hx with hx|hx
  ·rcases aK.1 hx with hx|hx
   ·exact .inl (bL hx)
   ·rcases aN.1 hx with rfl|hx
    ·exact .inr (by simp)
    ·exact .inl (dE hx)
  ·exact .inr (by simp[hx])
theorem znH{l:List gU}(h:∀x,x∈l->jK x):∀y,y∈l.flatMap ik->jK y:=λy hy=>by
 obtain⟨x,hx,hy⟩:=eO.1 hy;unfold ik at hy;split at hy
 ·exact((mH x).1 (h x hx)).2.1 y hy
 ·simp at hy;subst hy;exact h y hx
theorem zmG{y:gU}(h:iJ y∈([0,1,2,3,4,5]:List Int)):1<=y.kind/\y.kind<=6:=by
 unfold iJ at h;split at h
 ·simp at h
 ·omega
theorem zn5(k:Int)(s:List fF)(l:List gU)(hl:∀x,x∈l->jK x)(hk:5<=k/\k<=7)(h:(oK k s l).2=true):jK (oK k s l).1:=by
 unfold oK at h⊢;by_cases k5:k=5
 ·rw[aC k5]at h⊢;unfold y8 at h⊢;by_cases q:s.length≠l.length\/16<s.length
  ·rw[aC q]at h;cases h
  rw[aB q]at h⊢;have i:=Mq s l [] [] (by omega) rfl (by simp) h;refine(mH _).2 ⟨rfl,λx hx=>?_,.inr (.inl ⟨rfl,i.1,?_,i.2.2.1⟩)⟩
  ·rcases i.2.2.2 x hx with hx|hx
   ·cases hx
   ·exact hl x hx
  ·show(kG s l [] []).1.1.length<=16;rw[i.2.1];simp;omega
 rw[aB k5]at h⊢;by_cases k6:k=6
 ·rw[aC k6]at h⊢;simp only[aI]at h;exact(mH _).2 ⟨rfl,hl,.inr (.inr (.inl ⟨rfl,rfl,h⟩))⟩
 rw[aB k6]at h⊢;unfold zS at h⊢;have hm:=Ip (l.flatMap ik) [0,1,2,3,4,5] [];have hlen:=Mm (l.flatMap ik) [0,1,2,3,4,5] [];simp only at h⊢;generalize qf (l.flatMap ik) [0,1,2,3,4,5] []=r at*
 have hw:∀y,y∈r.1->jK y/\1<=y.kind/\y.kind<=6:=λy hy=>by
  rcases hm y hy with q|⟨q1,q2⟩
  ·cases q
  ·exact⟨znH hl y q1,zmG q2⟩
 have seven:∀L:List gU,L.length<=6->(∀y,y∈L->jK y/\1<=y.kind/\y.kind<=6)->jK (.mk 7 (bs []) [] L):=λL hn hL=>(mH _).2 ⟨rfl,λx hx=>(hL x hx).1,.inr (.inr (.inr ⟨rfl,rfl,hn,λx hx=>(hL x hx).2⟩))⟩;by_cases q:r.2=true
 ·rw[aC q]at h⊢;split
  ·rename_i x e;exact(hw x (by rw[e];simp)).1
  ·exact seven _ (by simpa using hlen) hw
 ·rw[aB q]at h;cases h
mutual
theorem Mr:∀t:gU,(ll t).2=true->jK (ll t).1
| .mk k n s l,h=>by
 rw[ll]at h⊢;by_cases q:5<=k/\k<=7
 ·rw[aC q]at h⊢;by_cases q2:(kV l).2=true
  ·rw[aC q2]at h⊢;exact zn5 k s _ (Ut l q2) q h
  ·rw[aB q2]at h;cases h
 ·rw[aB q]at h⊢;by_cases q2:0<=k/\k<=4
  ·rw[aC q2];exact vk k q2.1 q2.2
  ·rw[aB q2]at h;cases h
theorem Ut:∀l:List gU,(kV l).2=true->∀x,x∈(kV l).1->jK x
|[],_,x,hx=>by rw[kV]at hx;cases hx
| t::l,h,x,hx=>by
 rw[kV]at h hx;by_cases q:(ll t).2=true
 ·rw[aC q]at h hx;rcases aN.1 hx with rfl|hx
  ·exact Mr t q
  ·exact Ut l h x hx
 ·rw[aB q]at h;cases h
end
theorem F4(t:gU):jK (mO t).1:=by
 unfold mO;split
 ·exact rU
 split
 ·rename_i h;exact Mr t h
 ·exact rU
theorem F5{t:gU}(h:(mO t).2=0):(ll t).2=true/\nV t 201<=200/\oD 17 t<=16/\(mO t).1=(ll t).1:=by
 unfold mO at h⊢;by_cases q:16<oD 17 t\/200<nV t 201
 ·rw[aC q]at h;cases h
 rw[aB q]at h⊢;by_cases q2:(ll t).2=true
 ·rw[aC q2];exact⟨q2,by omega,by omega,rfl⟩
 ·rw[aB q2]at h;cases h
theorem F6{t:gU}:iE t=true↔(mO t).2=0/\(mO t).1=t:=by
 unfold iE;rw[aF,aI,Cx]
theorem z8{t:gU}(h:iE t=true):jK t:=by
 have h:=F6.1 h;rw[<-h.2];exact F4 t
theorem zGo{t:gU}(h:iE t=true):lG t/\nV t 201<=200:=by
 have h:=F5 (F6.1 h).1;exact⟨FX t 201 (by omega) (by omega),h.2.1⟩
mutual
def jT:gU->Nat
|.mk _ _ _ l=>jM l+1
def jM:List gU->Nat
|[]=>0
|t::l=>jT t+jM l
end
mutual
theorem Ms:∀(t:gU) (m:Int),nV t m<m->nV t m=jT t
|.mk k n s l,m,h=>by
 rw[nV]at h⊢;have:=Uu l m 1 (by omega) h;rw[jT];omega
theorem Uu:∀(l:List gU) (m n:Int),1<=n->qM l m n<m->qM l m n=n+jM l
|[],m,n,h1,h=>by rw[qM,jM];omega
| t::l,m,n,h1,h=>by
 have hle:=Ik t (m-n);rw[qM]at h⊢;by_cases q:n<m
 ·rw[aC q]at h⊢;have hle2:=Il l m (n+nV t (m-n)) (by omega);have i1:=Uu l m (n+nV t (m-n)) (by omega) h;have i2:=Ms t (m-n) (by omega);rw[jM];omega
 ·rw[aB q]at h;omega
end
theorem zHS(t:gU):1<=jT t:=by cases t;rw[jT];omega
theorem Mt:∀{l:List gU} {x:gU},x∈l->jT x<=jM l
|t::l,x,h=>by
 rw[jM];rcases aN.1 h with rfl|h
 ·omega
 ·have:=Mt h;omega
theorem F7{t:gU}(h:iE t=true):jT t<=200:=by
 have h:=(zGo h).2;have:=Ms t 201 (by omega);omega
theorem Mv{s:fF}(h:nE s=true):s.size<=32:=by
 unfold nE at h;split at h
 ·cases h
 ·simp at h;exact h.1
@[simp] theorem Ag(l:List Nat):(bs l).size=l.length:=by
 show(bs l).data.size=_;simp[bs]
theorem Uv(k:Int)(n:fF)(s:List fF)(l:List gU)(br:Bool):sU (.mk k n s l) br=
 if k=0 then bs [97,110,121]else if k=1 then bs [110,117,108,108]else if k=2 then bs [98,111,111,108]else if k=3 then bs [105,110,116]else if k=4 then bs [115,116,114]
 else if k=5 then bs [123]++yC s l (bs []) 0++bs [125]
 else if k=6 then(match l with
  |a::b::_=>if br=true then bs [40]++(sU a true++bs [32,45,62,32]++sU b false)++bs [41]else sU a true++bs [32,45,62,32]++sU b false
  |_=>bs [])
 else zT l (bs []) 0:=by rw[sU.eq_def];try rfl
mutual
theorem Ah:∀(t:gU) (br:Bool),jK t->(sU t br).size+60<=100*jT t
| .mk k n s l,br,h=>by
 have hw:=h;rw[jK,zZ]at h;obtain⟨_,hl,hc⟩:=h;have hl':=(zZ l).2 hl;rw[Uv,jT];split
 ·simp;omega
 split
 ·simp;omega
 split
 ·simp;omega
 split
 ·simp;omega
 split
 ·simp;omega
 split
 ·rename_i k5;subst k5;have hc:s.length=l.length/\s.length<=16/\∀x,x∈s->nE x=true:=by
   rcases hc with⟨_,q,_⟩|⟨_,q⟩|⟨q,_⟩|⟨q,_⟩
   ·omega
   ·exact q
   ·omega
   ·omega
  have:=Mw s l (bs []) 0 hl' hc.2.2;simp at this⊢;omega
 split
 ·rename_i k6;subst k6;have hc:l.length=2:=by
   rcases hc with⟨_,q,_⟩|⟨q,_⟩|⟨_,_,q⟩|⟨q,_⟩
   ·omega
   ·omega
   ·exact q
   ·omega
  match l,hc,hl' with
  |[a,b],_,hl'=>
   rw[lU,lU]at hl';have ha:=Ah a true hl'.1;have hb:=Ah b false hl'.2.1;simp only[jM];split
   ·simp;omega
   ·simp;omega
 ·have:=Uw l (bs []) 0 hl';simp at this;omega
theorem Mw:∀(s:List fF) (l:List gU) (out:fF) (i:Nat),lU l->(∀x,x∈s->nE x=true)->(yC s l out i).size<=out.size+100*jM l
|[],l,out,i,h,hn=>by rw[yC];omega;all_goals (intros;contradiction)
|_::_,[],out,i,h,hn=>by rw[yC];omega;all_goals (intros;contradiction)
|s::ss,t::ts,out,i,h,hn=>by
 rw[lU]at h;have h1:=Ah t false h.1;have h3:=Mv (hn s (by simp));rw[yC,jM];have h2:=Mw ss ts ((if 0<i then out++bs [44,32]else out)++s++bs [58,32]++sU t false) (i+1) h.2 (λx hx=>hn x (by simp[hx]));refine aj h2 ?_;split<;>simp<;>omega
theorem Uw:∀(l:List gU) (out:fF) (i:Nat),lU l->(zT l out i).size<=out.size+100*jM l
|[],out,i,h=>by rw[zT];omega
|t::ts,out,i,h=>by
 rw[lU]at h;have h1:=Ah t true h.1;rw[zT,jM];have h2:=Uw ts ((if 0<i then out++bs [32,124,32]else out)++sU t true) (i+1) h.2;refine aj h2 ?_;split<;>simp<;>omega
end
abbrev Cy(e:gU):Prop:=∀br:Bool,gY Pg 94 [.agg e.enc,.one (.bool br)] (.one (.str (sU e br)))
theorem zGg{c:Ctx}(hp:c.pure)(t:gU)(hw:lU t.kids)(hn:t.names.length=t.kids.length)(hnm:∀x,x∈t.names->nE x=true)(hc:jM t.kids<=1000)(hl:t.names.length<=1000)(ih:∀e,e∈t.kids->Cy e)(R:fF)(hR:yC t.names t.kids (bs []) 0=R){Q:Exit->St->Prop}{S:St}{g}{ms:List Nat}
  (h0:iM ms S [(6,.c (.d (.int .i64 0))),(5,.c (.d (.str (bs [])))),(2,.c (.d (.rp t.enc 0)))] [])
  (hQ:∀T M n,Abs.look T 5=.c (.d (.str R))->Q (.exit 1) ⟨T,M,n⟩):mV Pg c MV Q g S:=by
 refine fP gz hp (λx:Nat × fF=>x.1<=t.names.length/\x.2.size+100*jM (t.kids.drop x.1)<=100*jM t.kids/\yC (t.names.drop x.1) (t.kids.drop x.1) x.2 x.1=R) (λx=>[(6,.c (.d (.int .i64 x.1))),(5,.c (.d (.str x.2))),(2,.c (.d (.rp t.enc 0)))]) (λ_=>[]) (λx=>t.names.length-x.1) (0,bs []) ms ⟨by simp,by simp,by simpa using hR⟩ h0 λ⟨j,out⟩ ⟨h1,h2,h3⟩=>?_;unfold MV;simp only at h1 h2 h3;simp;apply gN<;>intro h
 ·have hj:j<t.names.length:=by simpa using h
  have hj2:j<t.kids.length:=by omega
  rw[aG hj,aG hj2,yC]at h3;rw[aG hj2,jM]at h2;have hnx:=Mv (hnm _ (aO hj));have hsx:=Ah t.kids[j] false ((zZ _).1 hw _ (aO hj2));have hix:=ih _ (aO hj2) false;by_cases h0:j=0
  ·subst h0;simp only[Nat.lt_irrefl,if_false]at h3;simp[hj,hj2,zah];refine⟨by omega,by omega,?_⟩;refine gT hix ?_;simp[zah];refine⟨by omega,by decide,?_⟩;refine fG (0+1,_) [] ⟨by simp only;omega,?_,h3⟩ (by simp only;omega) ?_
   ·simp only[ay,Ag,length_cons,length_nil];omega
   ·simp;decide
  ·have h0':(0:Int)<j:=by omega
   have h0'':0<j:=by omega
   rw[aC h0'']at h3;simp[h0',h0'',hj,hj2,zah];refine⟨by omega,by omega,by omega,?_⟩;refine gT hix ?_;simp[zah];refine⟨by omega,by decide,?_⟩;refine fG (j+1,_) [] ⟨by simp only;omega,?_,h3⟩ (by simp only;omega) ?_
   ·simp;omega
   ·simp;exact wI
 ·have hj:j=t.names.length:=by simp at h;omega
  subst hj;rw[aQ,yC]at h3
  ·subst h3;exact hQ _ _ _ (by simp)
  ·intros;contradiction
theorem zGh{c:Ctx}(hp:c.pure)(t:gU)(hw:lU t.kids)(hc:jM t.kids<=1000)(hl:t.kids.length<=1000)(ih:∀e,e∈t.kids->Cy e)(R:fF)(hR:zT t.kids (bs []) 0=R){Q:Exit->St->Prop}{S:St}{g}{ms:List Nat}
  (h0:iM ms S [(7,.c (.d (.int .i64 0))),(5,.c (.d (.str (bs [])))),(2,.c (.d (.rp t.enc 0)))] [])
  (hQ:∀T M n,Abs.look T 5=.c (.d (.str R))->Q (.exit 3) ⟨T,M,n⟩):mV Pg c MW Q g S:=by
 refine fP gz hp (λx:Nat × fF=>x.1<=t.kids.length/\x.2.size+100*jM (t.kids.drop x.1)<=100*jM t.kids/\zT (t.kids.drop x.1) x.2 x.1=R) (λx=>[(7,.c (.d (.int .i64 x.1))),(5,.c (.d (.str x.2))),(2,.c (.d (.rp t.enc 0)))]) (λ_=>[]) (λx=>t.kids.length-x.1) (0,bs []) ms ⟨by simp,by simp,by simpa using hR⟩ h0 λ⟨j,out⟩ ⟨h1,h2,h3⟩=>?_;unfold MW;simp only at h1 h2 h3;simp;apply gN<;>intro h
 ·have hj2:j<t.kids.length:=by simpa using h
  rw[aG hj2,zT]at h3;rw[aG hj2,jM]at h2;have hsx:=Ah t.kids[j] true ((zZ _).1 hw _ (aO hj2));have hix:=ih _ (aO hj2) true;by_cases h0:j=0
  ·subst h0;simp only[Nat.lt_irrefl,if_false]at h3;simp[hj2,zah];refine gT hix ?_;simp[zah];refine⟨by omega,?_⟩;refine fG (0+1,_) [] ⟨by simp only;omega,?_,h3⟩ (by simp only;omega) ?_
   ·simp only[ay,Ag,length_cons,length_nil];omega
   ·simp;decide
  ·have h0':(0:Int)<j:=by omega
   have h0'':0<j:=by omega
   rw[aC h0'']at h3;simp[h0',h0'',hj2,zah];refine⟨by omega,?_⟩;refine gT hix ?_;simp[zah];refine⟨by omega,?_⟩;refine fG (j+1,_) [] ⟨by simp only;omega,?_,h3⟩ (by simp only;omega) ?_
   ·simp;omega
   ·simp;exact wI
 ·have hj:j=t.kids.length:=by simp at h;omega
  subst hj;rw[aQ,zT]at h3;subst h3;exact hQ _ _ _ (by simp)
theorem zGi(t:gU)(hw:jK t)(hc:jT t<=1000)(ih:∀e,e∈t.kids->Cy e):Cy t:=by
 intro br;refine zDm (by simp) λo c hN hp=>?_;obtain⟨R,hR⟩:∃R,sU t br=R:=⟨_,rfl⟩
 rw[hR];have hwf:=(mH t).1 hw;have hws:=(zZ t.kids).2 hwf.2.1;have hcs:jT t=jM t.kids+1:=by cases t;rw[jT];try rfl
 have hd:=Uv t.kind t.name t.names t.kids br;rw[show gU.mk t.kind t.name t.names t.kids=t by cases t;rfl,hR]at hd;have hll:∀l:List gU,l.length<=jM l:=by
  intro l
  induction l with
  |nil=>simp
  |cons x l ih=>have:=zHS x;simp[jM];omega
 have hkl:=hll t.kids;unfold UI;by_cases k0:t.kind=0
 ·simp[k0]at hd;simp[k0,hd]
 by_cases k1:t.kind=1
 ·simp[k1]at hd;simp[k1,hd]
 by_cases k2:t.kind=2
 ·simp[k2]at hd;simp[k2,hd]
 by_cases k3:t.kind=3
 ·simp[k3]at hd;simp[k3,hd]
 by_cases k4:t.kind=4
 ·simp[k4]at hd;simp[k4,hd]
 by_cases k5:t.kind=5
 ·simp[k5]at hd;have hn:t.names.length=t.kids.length/\t.names.length<=16/\∀x,x∈t.names->nE x=true:=by
   rcases hwf.2.2 with⟨_,q,_⟩|⟨_,q⟩|⟨q,_⟩|⟨q,_⟩
   ·omega
   ·exact q
   ·omega
   ·omega
  have hfs:=Mw t.names t.kids (bs []) 0 hws hn.2.2;simp only[Ag,length_nil,Nat.zero_add]at hfs;simp[k5];refine zGg hp t hws hn.1 hn.2.2 (by omega) (by omega) ih _ rfl (ms:=[]) (by simp) λT M n t5=>?_;generalize yC t.names t.kids (bs []) 0=f at*
  simp[t5,zah];refine⟨by omega,by omega,?_⟩;rw[hd]
 by_cases k6:t.kind=6
 ·have hn:t.kids.length=2:=by
   rcases hwf.2.2 with⟨_,q,_⟩|⟨q,_⟩|⟨_,_,q⟩|⟨q,_⟩
   ·omega
   ·omega
   ·exact q
   ·omega
  obtain⟨a,b,hab⟩:∃a b,t.kids=[a,b]:=by
   match t.kids,hn with
   |[a,b],_=>exact⟨a,b,rfl⟩
  have hia:=ih a (by rw[hab];simp) true;have hib:=ih b (by rw[hab];simp) false;have hsa:=Ah a true (hwf.2.1 a (by rw[hab];simp));have hsb:=Ah b false (hwf.2.1 b (by rw[hab];simp));rw[hab]at hcs hd;simp only[jM]at hcs;simp[k6]at hd;simp[k6,hab,zah];refine gT hia ?_;simp[hab,zah];refine⟨by omega,?_⟩;refine gT hib ?_;generalize sU a true=sa at*
  generalize sU b false=sb at*
  simp[zah];refine⟨by omega,by decide,?_⟩;cases br with
  |true=>
   simp at hd;simp[zah];refine⟨by omega,by omega,?_⟩;rw[hd]
  |false=>
   simp at hd;simp[hd]
 ·simp[k0,k1,k2,k3,k4,k5,k6]at hd;simp[k0,k1,k2,k3,k4,k5,k6];refine zGh hp t hws (by omega) (by omega) ih R hd.symm (ms:=[]) (by simp) λT M n t5=>?_;simp[t5]
mutual
theorem Ux:∀t:gU,jK t->jT t<=1000->Cy t
|.mk k n s l,hw,hc=>by
 have hws:=hw;rw[jK]at hws;rw[jT]at hc;exact zGi (.mk k n s l) hw (by rw[jT];omega) (λe he=>Uy l hws.2.1 (by omega) e he)
theorem Uy:∀l:List gU,lU l->jM l<=1000->∀e,e∈l->Cy e
|[],_,_,e,h=>by cases h
|d::l,hw,hc,e,h=>by
 rw[lU]at hw;rw[jM]at hc;cases h with
 |head=>exact Ux d hw.1 (by omega)
 |tail _ h=>exact Uy l hw.2 (by omega) e h
end
theorem Iq(t:gU):gY Pg 60 [.agg t.enc] (.one (.str (yD t))):=by
 refine zDl (by simp) λo c hN hp=>?_;obtain⟨R,hR⟩:∃R,yD t=R:=⟨_,rfl⟩
 rw[hR];unfold yD at hR;have hi:iE t=(decide ((mO t).2=0)&&lC (mO t).1 t):=rfl;have hsh:iE t=true->Cy t:=λh=>Ux t (z8 h) (by have:=F7 h;omega);unfold UH;simp;refine gT (Ae t) ?_;generalize mO t=N at*
 simp;refine gT (EH _ _) ?_;by_cases h:N.2=0
 ·by_cases h2:lC N.1 t=true
  ·have hx:iE t=true:=by rw[hi];simp[h,h2]
   rw[aC hx]at hR;simp[h,h2];refine gT (hsh hx false) ?_;simp[hR]
  ·have hx:¬iE t=true:=by rw[hi];simp[h,h2]
   rw[aB hx]at hR;subst hR;simp[h,h2]
 ·have hx:¬iE t=true:=by rw[hi];simp[h]
  rw[aB hx]at hR;subst hR;simp[h]
end Go.Gr
