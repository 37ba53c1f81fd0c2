/- Texts of ours, joined and written short by a program of ours. -/
import Derived.Test.YtlfjlokfciejnaaGreatDoorFJ08
import Derived.Test.YtlfjlokfciejnaaGreatDoorFJ06
set_option maxRecDepth 20000
set_option maxHeartbeats 4000000
set_option linter.unusedVariables false
set_option linter.unusedSimpArgs false
namespace Go.Gr
open Go.Abs Go.Proofs
inductive gu where
 |mk (kind n:Int) (text:fE) (ints:List Int) (names:List fE) (types:List gT) (cos:List gY) (kids:List gu)
mutual
def gu.enc:gu->List D
 |.mk k n t is ns ts cs ks=>[.int .i64 k,.int .i64 n,.str t,.sl false 1 (encI is),.sl false 1 (encS ns),.sl false 4 (ts.map gT.enc),.sl false 5 (cs.map gY.enc),.sl false 8 (gu.encs ks)]
def gu.encs:List gu->List (List D)
 |[]=>[]
 |c::l=>gu.enc c::gu.encs l
end
theorem gu.encs_map(l:List gu):gu.encs l=l.map gu.enc:=by
 induction l with
 |nil=>rfl
 |cons n l ih=>simp[gu.encs,ih]
def gu.kind:gu->Int|.mk k _ _ _ _ _ _ _=>k
def gu.n:gu->Int|.mk _ n _ _ _ _ _ _=>n
def gu.text:gu->fE|.mk _ _ t _ _ _ _ _=>t
def gu.ints:gu->List Int|.mk _ _ _ i _ _ _ _=>i
def gu.names:gu->List fE|.mk _ _ _ _ n _ _ _=>n
def gu.types:gu->List gT|.mk _ _ _ _ _ t _ _=>t
def gu.cos:gu->List gY|.mk _ _ _ _ _ _ c _=>c
def gu.kids:gu->List gu|.mk _ _ _ _ _ _ _ l=>l
theorem gu.enc_eq(t:gu):t.enc=[.int .i64 t.kind,.int .i64 t.n,.str t.text,.sl false 1 (encI t.ints),.sl false 1 (encS t.names),.sl false 4 (t.types.map gT.enc),.sl false 5 (t.cos.map gY.enc),.sl false 8 (t.kids.map gu.enc)]:=by
 cases t;simp[gu.enc,gu.encs_map,gu.kind,gu.text,gu.n,gu.ints,gu.cos,gu.types,gu.names,gu.kids]
@[simp] theorem gu.enc_length(t:gu):t.enc.length=8:=by rw[t.enc_eq];try rfl
structure jb where
  name:fE
  type:gT
  body:gu
def jb.enc(f:jb):List D:=.str f.name::(f.type.enc++f.body.enc)
structure Site where
  module:Int
  line:Int
  col:Int
def Site.enc(s:Site):List D:=[.int .i64 s.module,.int .i64 s.line,.int .i64 s.col]
structure lT where
  funs:List jb
  main:Int
  sites:List Site
def lT.enc(p:lT):List D:=[.sl false 13 (p.funs.map jb.enc),.int .i64 p.main,.sl false 3 (p.sites.map Site.enc)]
def xx:lT:=⟨[],0,[]⟩
structure CS where
  tab:List kS
  funs:List jb
  main:Int
  sites:List Site
  bad:List iR
  module:Int
  vars:List fE
  wth:List gT
  e:Int
  line:Int
  col:Int
abbrev Env:=List (fE × gT)
abbrev Inf:=Env->CS->(gu × gT) × CS
def cK(k:Int)(l:List gu):gu:=.mk k 0 (bs []) [] [] [] [] l
def cN(k n:Int):gu:=.mk k n (bs []) [] [] [] [] []
def cT(k:Int)(t:fE)(l:List gu):gu:=.mk k 0 t [] [] [] [] l
def noC:gu:=cN 0 0
def kM(a b:gT):gT:=.mk 6 (bs []) [] [a,b]
def ky(ln cl e:Int)(s:CS):CS:=if s.e=0 then {s with e:=e,line:=ln,col:=cl}else s
def jo(t:gT)(ln cl:Int)(s:CS):gT × CS:=
 let r:=qX t s.vars s.wth
 (r.1,if r.2≠0 then ky ln cl 9 s else s)
def pF(t:gT)(ln cl:Int)(s:CS):gT × CS:=((mE t).1,if(mE t).2≠0 then ky ln cl 9 s else s)
def mF(x:gu)(t u:gT)(ln cl:Int)(s:CS):gu × CS:=
 if s.e≠0 then(x,s)else(.mk 21 s.sites.length (bs []) [] [] [t,u] [] [x],{s with sites:=s.sites++[⟨s.module,ln,cl⟩]})
def ko(x:gu)(t u:gT)(ln cl:Int)(s:CS):gu × CS:=
 if s.e≠0 then(x,s)else if pE t u=true then(x,s)else if AJ t u=true then mF x t u ln cl s else(x,ky ln cl 15 s)
section
variable (L:iN)
def vP(m k:Int):jS:=(L.mods.getD m.toNat oP).decs.getD k.toNat BM
def sW(e:iy)(l:List gT):gT × Bool:=
 let d:=vP L e.module e.decl;let a:=qX (d.types.getD 0 noT) (d.vars.map (·.1)) l;let b:=qX (d.types.getD 1 noT) (d.vars.map (·.1)) l;let t:=mE (kM a.1 b.1)
 (t.1,decide (a.2=0)&&(decide (b.2=0)&&decide (t.2=0)))
def sZ (ln cl:Int) (e:iy) (l:List gT) (s:CS):(gu × gT) × CS:=
 if(sW L e l).2=false then((noC,noT),ky ln cl 9 s)else
   let r:=kX 256 s.tab ⟨e.module,e.decl,l⟩
   ((cN 6 r.1.1,(sW L e l).1),if r.1.2≠0 then ky ln cl r.1.2 {s with tab:=r.2}else {s with tab:=r.2})
def qz(env:Env)(x:fE):Int:=match fi (λb:fE × gT=>decide (b.1=x)) 0 env.reverse with
 |i=>if i<0 then -1 else env.length-1-i
def sF(ln cl:Int):List gT->List gT->CS->List gT × CS
 |[],l,s=>(l,s)
 |t::ts,l,s=>if s.e≠0 then(l,s)else sF ln cl ts (l++[(jo t ln cl s).1]) (jo t ln cl s).2
def xM (n:gp) (env:Env) (s:CS):(gu × gT) × CS:=
 let k:=qz env n.text;let e:=qW (L.scopes.getD s.module.toNat []) n.text
 if 0<=k/\n.kind=4 then((cN 4 k,(env.getD k.toNat (bs [],noT)).2),s)
 else if k<0/\e.2=false then((noC,noT),ky n.line n.col 10 s)
 else if 0<=k then((noC,noT),ky n.line n.col 18 s)
 else
   let d:=vP L e.1.module e.1.decl
   if decide (0<d.vars.length)≠decide (n.kind=19)then((noC,noT),ky n.line n.col 18 s)
   else if n.kind=4 then sZ L n.line n.col e.1 [] s
   else
     let r:=sF n.line n.col n.types [] s
     if r.2.e≠0 then((noC,noT),r.2)
     else if Du d.vars r.1≠0 then((noC,noT),ky n.line n.col (Du d.vars r.1) r.2)
     else sZ L n.line n.col e.1 r.1 r.2
end
def pG (n a:gp) (ia ib:Inf) (env:Env) (s:CS):(gu × gT) × CS:=
 let x:=ia env s
 let y:=if 0<n.types.length/\x.2.e=0 then
     (let u:=jo (n.types.getD 0 noT) n.line n.col x.2
      let z:=ko x.1.1 x.1.2 u.1 a.line a.col u.2
      ((z.1,u.1),z.2))
   else x
 let z:=ib (env++[(n.text,y.1.2)]) y.2
 ((cK 18 [y.1.1,z.1.1],z.1.2),z.2)
def xN(n a:gp)(ia:Inf)(env:Env)(s:CS):(gu × gT) × CS:=
 let p:=jo (n.types.getD 0 noT) n.line n.col s;let q:=if 1<n.types.length/\p.2.e=0 then jo (n.types.getD 1 noT) n.line n.col p.2 else(noT,p.2);let x:=ia (env++[(n.text,p.1)]) q.2;let y:=if 1<n.types.length then(let z:=ko x.1.1 x.1.2 q.1 a.line a.col x.2;((z.1,q.1),z.2))else x;let u:=pF (kM p.1 y.1.2) n.line n.col y.2
 ((cK 5 [y.1.1],u.1),u.2)
def kV(u:gT)(ln cl:Int)(x:(gu × gT) × CS):(gu × gT) × CS:=
 if x.1.2.kind=0 then(((mF x.1.1 x.1.2 u ln cl x.2).1,u),(mF x.1.1 x.1.2 u ln cl x.2).2)else x
def xO (n b:gp) (ia ib:Inf) (env:Env) (s:CS):(gu × gT) × CS:=
 let x:=kV (kM noT noT) n.line n.col (ia env s)
 if x.1.2.kind≠6 then((noC,noT),ky n.line n.col 16 x.2)else
   let y:=ib env x.2;let z:=ko y.1.1 y.1.2 (jY x.1.2) b.line b.col y.2
   ((cK 7 [x.1.1,z.1],jZ x.1.2),z.2)
def lh:List fE->List fE->Bool
 |_,[]=>false
 |had,n::l=>had.any (λm=>decide (m=n))||lh (had++[n]) l
def qB(n:gp)(ks:Env->CS->(List gu × List gT) × CS)(env:Env)(s:CS):(gu × gT) × CS:=
 let s1:=if lh [] n.names=true then ky n.line n.col 8 s else s;let r:=ks env s1;let u:=pF (.mk 5 (bs []) n.names r.1.2) n.line n.col r.2
 ((.mk 8 0 (bs []) [] n.names [] [] r.1.1,u.1),u.2)
def pI(n:gp)(ia:Inf)(env:Env)(s:CS):(gu × gT) × CS:=
 let x:=ia env s;let f:=kH x.1.2 n.text;let y:=if x.1.2.kind=0 then mF x.1.1 x.1.2 (.mk 5 (bs []) [n.text] [noT]) n.line n.col x.2 else(x.1.1,x.2)
 ((cT 9 n.text [y.1],f.1),if f.2=true\/x.1.2.kind=0 then y.2 else ky n.line n.col 17 y.2)
def rV(x:fE):List fE->List gT->List (fE × gT)
 |n::ns,k::ks=>if n=x then rV x ns ks else(n,k)::rV x ns ks
 |_,_=>[]
def xP (n:gp) (ia ib:Inf) (env:Env) (s:CS):(gu × gT) × CS:=
 let x:=kV (bT 5) n.line n.col (ia env s)
 if x.1.2.kind≠5 then((noC,noT),ky n.line n.col 17 x.2)else
   let y:=ib env x.2;let r:=(n.text,y.1.2)::rV n.text x.1.2.names x.1.2.kids;let u:=pF (.mk 5 (bs []) (r.map (·.1)) (r.map (·.2))) n.line n.col y.2
   ((cT 10 n.text [x.1.1,y.1.1],u.1),u.2)
def oL (q:gp) (env:Env):Env × Env:=
 if q.kind=12/\(q.kids.getD 0 qR).kind=4/\0<=qz env (q.kids.getD 0 qR).text then
   let k:=(qz env (q.kids.getD 0 qR).text).toNat;let b:=env.getD k (bs [],noT)
   (env.set k (b.1,(vN b.2 q.n).1),env.set k (b.1,(vN b.2 q.n).2))
 else(env,env)
def xQ(q a b:gp)(iq ia ib:Inf)(env:Env)(s:CS):(gu × gT) × CS:=
 let x:=iq env s;let x':=ko x.1.1 x.1.2 (bT 2) q.line q.col x.2;let y:=ia (oL q env).1 x'.2;let z:=ib (oL q env).2 y.2;let j:=yX y.1.2 z.1.2;let y':=ko y.1.1 y.1.2 j a.line a.col z.2;let z':=ko z.1.1 z.1.2 j b.line b.col y'.2
 ((cK 11 [x'.1,y'.1,z'.1],j),z'.2)
def xR (n:gp) (ia:Inf) (env:Env) (s:CS):(gu × gT) × CS:=
 let x:=ia env s
 if x.2.e≠0 then x else
   let u:=jo (n.types.getD 0 noT) n.line n.col x.2
   if u.2.e≠0\/pE x.1.2 u.1=true then((x.1.1,u.1),u.2)else
     let y:=if x.1.2.kind≠0 then mF x.1.1 x.1.2 noT n.line n.col u.2 else(x.1.1,u.2)
     if u.1.kind=0 then((y.1,u.1),y.2)
     else if x.1.2.kind=0 then(((mF y.1 x.1.2 u.1 n.line n.col y.2).1,u.1),(mF y.1 x.1.2 u.1 n.line n.col y.2).2)
     else((.mk 21 y.1.n (bs []) [] [] [noT,u.1] [] [y.1],u.1),y.2)
def nI(n:gp)(i:Inf)(t:gT)(env:Env)(s:CS):gu × CS:=
 let x:=i env s
 ko x.1.1 x.1.2 t n.line n.col x.2
def vQ:List fE:=[bs [43],bs [45],bs [42],bs [47],bs [37],bs [60,60],bs [62,62],bs [38],bs [94],bs [60],bs [60,61]]
def BN(s:fE):Int:=max 0 (fi (λx=>decide (x=s)) 0 vQ)
def opC (n a b:gp) (ia ib:Inf) (env:Env) (s:CS):(gu × gT) × CS:=
 if n.text=bs [111,114]then
   let x:=nI a ia (bT 2) env s;let y:=nI b ib (bT 2) env x.2
   ((cK 11 [x.1,cN 2 1,y.1],bT 2),y.2)
 else if n.text=bs [97,110,100]then
   let x:=nI a ia (bT 2) env s;let y:=nI b ib (bT 2) env x.2
   ((cK 11 [x.1,y.1,cN 2 0],bT 2),y.2)
 else if n.text=bs [61,61]then
   let x:=ia env s;let y:=ib env x.2
   ((cK 14 [x.1.1,y.1.1],bT 2),y.2)
 else if n.text=bs [43,43]then
   let x:=nI a ia (bT 4) env s;let y:=nI b ib (bT 4) env x.2
   ((cK 15 [x.1,y.1],bT 4),y.2)
 else
   let x:=nI a ia (bT 3) env s;let y:=nI b ib (bT 3) env x.2
   ((.mk 13 (BN n.text) (bs []) [] [] [] [] [x.1,y.1],if 9<=BN n.text then bT 2 else bT 3),y.2)
def pJ(n a:gp)(ia:Inf)(env:Env)(s:CS):(gu × gT) × CS:=
 if n.kind=15 then((cK 16 [(nI a ia (bT 2) env s).1],bT 2),(nI a ia (bT 2) env s).2)
 else if n.kind=16 then((cK 17 [(nI a ia (bT 3) env s).1],bT 3),(nI a ia (bT 3) env s).2)
 else if n.kind=12 then((.mk 12 n.n (bs []) [] [] [] [] [(ia env s).1.1],bT 2),(ia env s).2)
 else((cK 19 [(ia env s).1.1],bT 1),(ia env s).2)
mutual
def ig (L:iN):gp->Inf
 | .mk k tx nn ln cl ts ns ks=>λenv s=>
   if s.e≠0 then((noC,noT),s)
   else if k=0 then((cN 0 nn,bT 3),s)
   else if k=1 then((cT 1 tx [],bT 4),s)
   else if k=2 then((cN 2 nn,bT 2),s)
   else if k=3 then((cN 3 0,bT 1),s)
   else if k=18 then((cN 20 0,bT 3),s)
   else if k=4\/k=19 then xM L (.mk k tx nn ln cl ts ns ks) env s
   else if k=8 then qB (.mk k tx nn ln cl ts ns ks) (oC L ks) env s
   else match ks with
     |[]=>((noC,noT),s)
     | a::[]=>
       if k=6 then xN (.mk k tx nn ln cl ts ns ks) a (ig L a) env s
       else if k=9 then pI (.mk k tx nn ln cl ts ns ks) (ig L a) env s
       else if k=13 then xR (.mk k tx nn ln cl ts ns ks) (ig L a) env s
       else pJ (.mk k tx nn ln cl ts ns ks) a (ig L a) env s
     | a::b::[]=>
       if k=5 then pG (.mk k tx nn ln cl ts ns ks) a (ig L a) (ig L b) env s
       else if k=7 then xO (.mk k tx nn ln cl ts ns ks) b (ig L a) (ig L b) env s
       else if k=10 then xP (.mk k tx nn ln cl ts ns ks) (ig L a) (ig L b) env s
       else opC (.mk k tx nn ln cl ts ns ks) a b (ig L a) (ig L b) env s
     |a::b::c::_=>xQ a b c (ig L a) (ig L b) (ig L c) env s
def oC (L:iN):List gp->Env->CS->(List gu × List gT) × CS
 |[]=>λenv s=>(([],[]),s)
 | n::l=>λenv s=>
   let x:=ig L n env s;let r:=oC L l env x.2
   ((x.1.1::r.1.1,x.1.2::r.1.2),r.2)
end
def uQ:List gT->Nat->fE->fE
 |[],_,s=>s
 |t::l,i,s=>uQ l (i+1) (s++(if i=0 then bs [91]else bs [44,32])++xu t)
def nA(L:iN)(x:kS)(s0:CS):CS:=
 let d:=vP L x.module x.decl;let s:CS:={s0 with module:=x.module,vars:=d.vars.map (·.1),wth:=x.types,e:=0}
 let a:=jo (d.types.getD 0 noT) d.line d.col s;let b:=jo (d.types.getD 1 noT) d.line d.col a.2;let t:gT × CS:=if b.2.e=0 then pF (kM a.1 b.1) d.line d.col b.2 else(kM a.1 b.1,b.2);let s2:CS:=if x.module=L.main.module/\x.decl=L.main.decl/\AJ (bT 1) a.1=false then ky d.line d.col 14 t.2 else t.2;let y:=ig L d.body [(d.param,a.1)] s2;let z:=ko y.1.1 y.1.2 b.1 d.body.line d.body.col y.2;let nm:=uQ x.types 0 (L.names.getD x.module.toNat (bs [])++bs [46]++d.name);let nm:=if 0<x.types.length then nm++bs [93]else nm;let s3:CS:={z.2 with funs:=z.2.funs++[⟨nm,t.1,z.1⟩]}
 if s3.e≠0 then {s3 with bad:=s3.bad++[⟨x.module,s3.line,s3.col,s3.e⟩]}else s3
def uk (L:iN) (i:Nat):List jS->Nat->CS->CS × List iR
 |[],_,s=>(s,[])
 | d ::l,k,s=>
   if 0<d.vars.length then uk L i l (k+1) s else
     let r:=kX 256 s.tab ⟨i,k,[]⟩
     if r.1.2≠0 then({s with tab:=r.2},[⟨i,d.line,d.col,r.1.2⟩])
     else uk L i l (k+1) {s with tab:=r.2,main:=if(i:Int)=L.main.module/\(k:Int)=L.main.decl then r.1.1 else s.main}
def rW(L:iN):List jP->Nat->CS->CS × List iR
 |[],_,s=>(s,[])
 |m::l,i,s=>if 0<(uk L i m.decs 0 s).2.length then uk L i m.decs 0 s else rW L l (i+1) (uk L i m.decs 0 s).1
def oh(L:iN):Nat->Nat->CS->CS
 |0,_,s=>s
 |n+1,i,s=>if i<s.tab.length then oh L n (i+1) (nA L (s.tab.getD i ⟨0,0,[]⟩) s)else s
def cs0:CS:=⟨[],[],0,[],[],0,[],[],0,0,0⟩
def AQ (L:iN):lT × List iR:=
 let a:=rW L L.mods 0 cs0
 if 0<a.2.length then(xx,a.2)else
   let s:=oh L 257 0 a.1
   if 0<s.bad.length then(xx,s.bad)else(⟨s.funs,s.main,s.sites⟩,[])
def qC:List (fE × fE)->Int->Bool
 |[],_=>true
 |s::l,n=>if 70000-n<s.2.size\/1000<s.1.size then false else qC l (n+s.2.size)
def si:List (fE × fE)->Int
 |[]=>0
 |s::l=>s.2.size+si l
def ul (l:List (fE × fE)):lT × Bool:=
 if 20<l.length\/qC l 0=false\/5000<si l then(xx,false)else
   let x:=yZ l
   if 0<x.2.length then(xx,false)else
     let r:=AQ x.1
     (r.1,decide (r.2.length=0))
def TR:MC:=(λx(_:x=gC tt [] [] [] (iP 0 (gB Tryz.f161)))=>x) _ (by dsimp[Tryz.f161])
def TS:MC:=(λx(_:x=gC tt [] [] [(0,TR)] (gB Tryz.f161))=>x) _ (by dsimp[Tryz.f161])
theorem zkM:WT Pg 161 31 TS [.tmp 4]:=wT gy Tryz.func161 (by kernel_rfl)
def TU:MC:=(λx(_:x=gC tt [] [] [] (gB Tryz.f129))=>x) _ (by dsimp[Tryz.f129])
theorem zkN:WT Pg 129 5 TU [.tmp 2]:=wT gy Tryz.func129 (by kernel_rfl)
def TV:MC:=(λx(_:x=gC tt [] [] [] (gB Tryz.f128))=>x) _ (by dsimp[Tryz.f128])
theorem ziU:WT Pg 128 5 TV [.tmp 2]:=wT gy Tryz.func128 (by kernel_rfl)
def TW:MC:=(λx(_:x=gC tt [] [] [] (iP 0 (gB Tryz.f160)))=>x) _ (by dsimp[Tryz.f160])
def IY:MC:=(λx(_:x=gC tt [] [] [(0,TW)] (gB Tryz.f160))=>x) _ (by dsimp[Tryz.f160])
theorem Lf:WT Pg 160 31 IY [.tmp 4]:=wT gy Tryz.func160 (by kernel_rfl)
def Lg:MC:=(λx(_:x=gC tt [] [(6,[0,1,0,7,15,0,32,0,224,480,1023])] [] (iP 0 (gB Tryz.f77)))=>x) _ (by dsimp[Tryz.f77])
def Lh:MC:=(λx(_:x=gC tt [] [(11,[0,1,0,7,15,0,32,0,224,480,1023,2047])] [] (iP 2 (gB Tryz.f77)))=>x) _ (by dsimp[Tryz.f77])
def TZ:MC:=(λx(_:x=gC tt [] [] [(0,Lg),(2,Lh)] (gB Tryz.f77))=>x) _ (by dsimp[Tryz.f77])
theorem zkO:WT Pg 77 76 TZ [.tmp 4]:=wT gy Tryz.func77 (by kernel_rfl)
def T9:MC:=(λx(_:x=gC tt [] [] [] (gB Tryz.f76))=>x) _ (by dsimp[Tryz.f76])
theorem zkP:WT Pg 76 24 T9 [.cell 2 true 4,.tmp 3]:=wT gy Tryz.func76 (by kernel_rfl)
def Li:MC:=(λx(_:x=gC tt [] [] [] (iP 1 (gB Tryz.f130)))=>x) _ (by dsimp[Tryz.f130])
def Ta:MC:=(λx(_:x=gC tt [(4,50),(4,64),(6,1)] [] [(1,Li)] (gB Tryz.f130))=>x) _ (by dsimp[Tryz.f130])
theorem zkQ:WT Pg 130 68 Ta [.cell 2 true 4,.tmp 3]:=wT gy Tryz.func130 (by kernel_rfl)
def Lj:MC:=(λx(_:x=gC tt [] [(9,[0,0,2,6,15,31,63,127,63,511,1023,63,63,6207,14399,32767,65535])] [] (iP 2 (gB Tryz.f162)))=>x) _ (by dsimp[Tryz.f162])
def Tc:MC:=(λx(_:x=gC tt [] [(11,[0,1,3,7,7,23,55,127,255,511,1023,511,4095,8191,511,511,49663,115199,262143,524287,1048575])] [(2,Lj)] (iP 0 (gB Tryz.f162)))=>x) _ (by dsimp[Tryz.f162])
def Td:MC:=(λx(_:x=gC tt [(6,0)] [] [(0,Tc)] (gB Tryz.f162))=>x) _ (by dsimp[Tryz.f162])
theorem ziV:WT Pg 162 117 Td [.cell 4 true 4,.tmp 5]:=wT gy Tryz.func162 (by kernel_rfl)
def Te:MC:=(λx(_:x=gC tt [] [] [] (iP 0 (gB Tryz.f163)))=>x) _ (by dsimp[Tryz.f163])
def Ll:MC:=(λx(_:x=gC tt [] [(20,[0,1,0,0,12,28,60,127,255,511]),(22,[0,0,3,7,0,16,0,64,192,448,1008,2032,4095,8191])] [] (iP 4 (gB Tryz.f163)))=>x) _ (by dsimp[Tryz.f163])
def Tf:MC:=(λx(_:x=gC tt [] [] [(4,Ll)] (iP 2 (gB Tryz.f163)))=>x) _ (by dsimp[Tryz.f163])
def Ti:MC:=(λx(_:x=gC tt [(6,0),(6,2)] [(27,[0,0,2,6,14,1,63])] [(0,Te),(2,Tf)] (gB Tryz.f163))=>x) _ (by dsimp[Tryz.f163])
theorem zjZ:WT Pg 163 102 Ti [.cell 2 true 4,.tmp 3]:=wT gy Tryz.func163 (by kernel_rfl)
def Tj:MC:=(λx(_:x=gC tt [] [] [] (gB Tryz.f152))=>x) _ (by dsimp[Tryz.f152])
theorem zlu:WT Pg 152 15 Tj [.tmp 2]:=wT gy Tryz.func152 (by kernel_rfl)
def Tk:MC:=(λx(_:x=gC tt [] [] [] (gB Tryz.f60))=>x) _ (by dsimp[Tryz.f60])
theorem zDl:WT Pg 60 22 Tk [.tmp 2]:=wT gy Tryz.func60 (by kernel_rfl)
def Lm:MC:=(λx(_:x=gC tt [] [(19,[0,0,2,0,14,30,63,127,0,256,0,1792,3840,7936,16383,32767])] [] (iP 1 (gB Tryz.f94)))=>x) _ (by dsimp[Tryz.f94])
def Lp:MC:=(λx(_:x=gC tt [] [] [] (iP 3 (gB Tryz.f94)))=>x) _ (by dsimp[Tryz.f94])
def Tn:MC:=(λx(_:x=gC tt [] [(22,[0,1,3,7,15,31,0,64,192,448,991,2047,4095])] [(1,Lm),(3,Lp)] (gB Tryz.f94))=>x) _ (by dsimp[Tryz.f94])
theorem zDm:WT Pg 94 90 Tn [.tmp 4]:=wT gy Tryz.func94 (by kernel_rfl)
def Tp:MC:=(λx(_:x=gC tt [] [] [] (gB Tryz.f50))=>x) _ (by dsimp[Tryz.f50])
theorem ziW:WT Pg 50 19 Tp [.tmp 2]:=wT gy Tryz.func50 (by kernel_rfl)
def Tq:MC:=(λx(_:x=gC tt [] [] [] (iP 0 (gB Tryz.f111)))=>x) _ (by dsimp[Tryz.f111])
def Tt:MC:=(λx(_:x=gC tt [] [(17,[0,0,2,0,14,30,62,0,128,0,896,1920,4094,8190,16383,32767])] [] (iP 2 (gB Tryz.f111)))=>x) _ (by dsimp[Tryz.f111])
def Lr:MC:=(λx(_:x=gC tt [(6,0),(6,2)] [(13,[0,1,0,7,15,31])] [(0,Tq),(2,Tt)] (gB Tryz.f111))=>x) _ (by dsimp[Tryz.f111])
theorem Tu:WT Pg 111 65 Lr [.tmp 2]:=wT gy Tryz.func111 (by kernel_rfl)
def Tv:MC:=(λx(_:x=gC tt [] [] [] (iP 0 (gB Tryz.f132)))=>x) _ (by dsimp[Tryz.f132])
def Tw:MC:=(λx(_:x=gC tt [] [] [(0,Tv)] (gB Tryz.f132))=>x) _ (by dsimp[Tryz.f132])
theorem zkR:WT Pg 132 25 Tw [.cell 4 true 6,.tmp 5]:=wT gy Tryz.func132 (by kernel_rfl)
def Tx:MC:=(λx(_:x=gC tt [] [] [] (iP 0 (gB Tryz.f133)))=>x) _ (by dsimp[Tryz.f133])
def Tz:MC:=(λx(_:x=gC tt [] [] [(0,Tx)] (gB Tryz.f133))=>x) _ (by dsimp[Tryz.f133])
theorem zj0:WT Pg 133 27 Tz [.cell 4 true 4,.tmp 5]:=wT gy Tryz.func133 (by kernel_rfl)
def Ls:MC:=(λx(_:x=gC tt [] [(15,[0,0,2,6,0,30,62,127,255,511,511,0,3071,8191]),(16,[0,1,3,7,7,23,55,7,247,503,7,2047,4095,8191])] [] (iP 2 (gB Tryz.f80)))=>x) _ (by dsimp[Tryz.f80])
def UA:MC:=(λx(_:x=gC tt [] [(18,[0,1,3,7,15,31,63,127,255,15,527,1551,3599,15,16383,32767,65535,131071,262143,524287,1048575,131071,2228223,6422527,14811135,31588351,131071,134217727,268435455,536870911,1073741823])] [(2,Ls)] (iP 0 (gB Tryz.f80)))=>x) _ (by dsimp[Tryz.f80])
def UB:MC:=(λx(_:x=gC tt [] [] [(0,UA)] (gB Tryz.f80))=>x) _ (by dsimp[Tryz.f80])
theorem zBY:WT Pg 80 123 UB [.tmp 6]:=wT gy Tryz.func80 (by kernel_rfl)
def UC:MC:=(λx(_:x=gC tt [] [] [] (gB Tryz.f92))=>x) _ (by dsimp[Tryz.f92])
theorem zEG:WT Pg 92 20 UC [.tmp 4]:=wT gy Tryz.func92 (by kernel_rfl)
def UD:MC:=(λx(_:x=gC tt [] [] [] (gB Tryz.f55))=>x) _ (by dsimp[Tryz.f55])
theorem zDn:WT Pg 55 20 UD [.tmp 4]:=wT gy Tryz.func55 (by kernel_rfl)
def UE:MC:=(λx(_:x=gC tt [] [] [] (iP 0 (gB Tryz.f139)))=>x) _ (by dsimp[Tryz.f139])
def UF:MC:=(λx(_:x=gC tt [(4,128),(6,0)] [] [(0,UE)] (gB Tryz.f139))=>x) _ (by dsimp[Tryz.f139])
theorem zDo:WT Pg 139 136 UF [.cell 4 true 4]:=wT gy Tryz.func139 (by kernel_rfl)
def UG:MC:=(λx(_:x=gC tt [] [(18,[0,1,0,4,0,28,60,124,255,511,1023])] [] (iP 0 (gB Tryz.f138)))=>x) _ (by dsimp[Tryz.f138])
def UH:MC:=(λx(_:x=gC tt [(6,0)] [(3,[0,0,1,7]),(6,[0,0,1,7]),(7,[0,1,3,0,7,31]),(10,[0,0,1,7]),(12,[0,0,1,7]),(20,[0,1,0,4,12,28,3,127]),(21,[0,1,0,3,15])] [(0,UG)] (gB Tryz.f138))=>x) _ (by dsimp[Tryz.f138])
theorem zAn:WT Pg 138 91 UH [.cell 4 true 4,.cell 5 true 4]:=wT gy Tryz.func138 (by kernel_rfl)
def UI:MC:=(λx(_:x=gC tt [] [] [] (iP 0 (gB Tryz.f31)))=>x) _ (by dsimp[Tryz.f31])
def UJ:MC:=(λx(_:x=gC tt [] [] [(0,UI)] (gB Tryz.f31))=>x) _ (by dsimp[Tryz.f31])
theorem zAo:WT Pg 31 19 UJ [.tmp 4]:=wT gy Tryz.func31 (by kernel_rfl)
def UK:MC:=(λx(_:x=gC tt [(3,46)] [(10,[0,1,0,0,12,28,60,127,255]),(11,[0,1,0,0,12,28,60,124,255,511,1023])] [] (iP 0 (gB Tryz.f28)))=>x) _ (by dsimp[Tryz.f28])
def UL:MC:=(λx(_:x=gC tt [(6,0)] [] [(0,UK)] (gB Tryz.f28))=>x) _ (by dsimp[Tryz.f28])
theorem zBZ:WT Pg 28 91 UL [.cell 2 true 6,.tmp 3]:=wT gy Tryz.func28 (by kernel_rfl)
def UM:MC:=(λx(_:x=gC tt [] [] [] (iP 0 (gB Tryz.f48)))=>x) _ (by dsimp[Tryz.f48])
def UN:MC:=(λx(_:x=gC tt [] [] [(0,UM)] (gB Tryz.f48))=>x) _ (by dsimp[Tryz.f48])
theorem zDp:WT Pg 48 25 UN [.cell 4 true 3,.tmp 5]:=wT gy Tryz.func48 (by kernel_rfl)
def UO:MC:=(λx(_:x=gC tt [] [] [] (iP 0 (gB Tryz.f32)))=>x) _ (by dsimp[Tryz.f32])
def UQ:MC:=(λx(_:x=gC tt [] [] [(0,UO)] (gB Tryz.f32))=>x) _ (by dsimp[Tryz.f32])
theorem zDq:WT Pg 32 22 UQ [.tmp 4]:=wT gy Tryz.func32 (by kernel_rfl)
def UR:MC:=(λx(_:x=gC tt [(3,58)] [(9,[0,1,0,7,15,0,32,0,224,480,1023,2047])] [] (iP 0 (gB Tryz.f47)))=>x) _ (by dsimp[Tryz.f47])
def UT:MC:=(λx(_:x=gC tt [(6,0),(7,1)] [(5,[0,0,2,1,15])] [(0,UR)] (gB Tryz.f47))=>x) _ (by dsimp[Tryz.f47])
theorem zxT:WM Pg 47 100 UT [.tmp 8,.tmp 9]:=wM gy Tryz.func47 (by kernel_rfl)
def Lt:MC:=(λx(_:x=gC tt [(9,47)] [(11,[0,0,0,4,0,28,60,0,255,511,1023,1023,2047,8191])] [] (iP 2 (gB Tryz.f29)))=>x) _ (by dsimp[Tryz.f29])
def Lu:MC:=(λx(_:x=gC tt [(3,65)] [(19,[0,0,0,4,0,28,60,124,0,256,0,1792,3840,7936,16382,32766,65535,131071])] [] (iP 4 (gB Tryz.f29)))=>x) _ (by dsimp[Tryz.f29])
def UU:MC:=(λx(_:x=gC tt [(4,98),(6,2)] [] [(2,Lt),(4,Lu)] (iP 0 (gB Tryz.f29)))=>x) _ (by dsimp[Tryz.f29])
def UV:MC:=(λx(_:x=gC tt [(6,0)] [] [(0,UU)] (gB Tryz.f29))=>x) _ (by dsimp[Tryz.f29])
theorem zAp:WT Pg 29 104 UV [.tmp 2,.tmp 3]:=wT gy Tryz.func29 (by kernel_rfl)
def Lv:MC:=(λx(_:x=gC tt [] [(13,[0,1,0,0,12,28,60,127,255])] [] (iP 4 (gB Tryz.f49)))=>x) _ (by dsimp[Tryz.f49])
def Lx:MC:=(λx(_:x=gC tt [] [] [(4,Lv)] (iP 2 (gB Tryz.f49)))=>x) _ (by dsimp[Tryz.f49])
def UW:MC:=(λx(_:x=gC tt [] [] [(2,Lx)] (iP 0 (gB Tryz.f49)))=>x) _ (by dsimp[Tryz.f49])
def UX:MC:=(λx(_:x=gC tt [(1,16)] [] [(0,UW)] (gB Tryz.f49))=>x) _ (by dsimp[Tryz.f49])
theorem zz0:WT Pg 49 69 UX [.tmp 6]:=wT gy Tryz.func49 (by kernel_rfl)
def MB:MC:=(λx(_:x=gC tt [] [(9,[0,1,0,0,12,28,60,127,255]),(12,[0,0,0,0,12,28,60,0,0,384,896,1920,4094,8190,16383,32767])] [] (iP 2 (gB Tryz.f30)))=>x) _ (by dsimp[Tryz.f30])
def UY:MC:=(λx(_:x=gC tt [] [] [(2,MB)] (iP 0 (gB Tryz.f30)))=>x) _ (by dsimp[Tryz.f30])
def UZ:MC:=(λx(_:x=gC tt [(6,0)] [] [(0,UY)] (gB Tryz.f30))=>x) _ (by dsimp[Tryz.f30])
theorem zB0:WT Pg 30 61 UZ [.tmp 2]:=wT gy Tryz.func30 (by kernel_rfl)
def U0:MC:=(λx(_:x=gC tt [] [(20,[0,0,0,4,0,16,62,126,1,511])] [] (gB Tryz.f16))=>x) _ (by dsimp[Tryz.f16])
theorem zDr:WT Pg 16 88 U0 [.cell 2 true 6,.tmp 3]:=wT gy Tryz.func16 (by kernel_rfl)
end Go.Gr
namespace Go.Gr
open Go.Abs Go.Proofs List
theorem BO{t:gT}(o:DV.ok (.agg t.enc)):t.names.length<=zah/\t.kids.length<=zah:=by
 rw[gT.enc_eq]at o;simp only[DV.ok,D.okL,D.ok,Di,aU]at o;exact⟨o.2.2.1.1,o.2.2.2.1.1⟩
@[simp] theorem gT.enc_g1(t:gT)(h:1<t.enc.length):t.enc[1]=.str t.name:=by have:=t.enc_1;rw[aA h]at this;exact bN this
mutual
theorem IZ:∀(t:gT) (m:Int),1<=nN t m/\nN t m<=max 1 m
|.mk _ _ _ l,m=>by have:=I1 l m 1 (by omega);rw[nN];omega
theorem I1:∀(l:List gT) (m n:Int),1<=n->n<=qA l m n/\qA l m n<=max n m
|[],m,n,h=>by rw[qA];omega
| t::l,m,n,h=>by
 rw[qA];split
 ·have h1:=IZ t (m-n);have h2:=I1 l m (n+nN t (m-n)) (by omega);omega
 ·omega
end
theorem zj9{l:List gT}{m n:Int}(h:¬n<m):qA l m n=n:=by
 cases l with
 |nil=>rw[qA]
 |cons d l=>rw[qA,aB h]
theorem zmV(t:gT)(ih:∀e,e∈t.kids->∀m:Int,1<=m->m<=1000->gU Pg 161 [.agg e.enc,.one (.int .i64 m)] (.one (.int .i64 (nN e m))))(m:Int)(h1:1<=m)(h2:m<=1000):
  gU Pg 161 [.agg t.enc,.one (.int .i64 m)] (.one (.int .i64 (nN t m))):=by
 refine zkM (by simp) λo c hN hp=>?_;have hf:=BO o.1;unfold zah at hf;have e:nN t m=qA t.kids m 1:=by cases t;rw[nN];try rfl
 rw[e];unfold TS;simp;refine fO gy hp (λx:Nat × Int=>x.1<=t.kids.length/\(1<=x.2/\x.2<=1000)/\qA (t.kids.drop x.1) m x.2=qA t.kids m 1) (λx=>[(6,.c (.d (.int .i64 x.1))),(5,.c (.d (.int .i64 x.2))),(2,.c (.d (.rp t.enc 0))),(1,.c (.d (.int .i64 m)))]) (λ_=>[]) (λx=>t.kids.length-x.1) (0,1) [] ⟨by simp,by simp,by simp⟩ (by simp) λ⟨j,n⟩ ⟨hx1,hx3,hx2⟩=>?_;unfold TR;simp only at hx1 hx2 hx3;simp;apply gM<;>intro h
 ·have hj:j<t.kids.length:=by simpa using h
  rw[aD hj]at hx2;apply gM<;>intro h
  ·simp at h;rw[qA,aC h]at hx2;have hw:IntKind.i64.wrap (m-n)=m-n:=wI;simp[aA hj,hw];refine gQ (ih _ (aR hj) (m-n) (by omega) (by omega)) ?_;have hle:=IZ t.kids[j] (m-n);simp;refine fF (j+1,n+nN t.kids[j] (m-n)) [] ⟨by simp;omega,by simp only;omega,hx2⟩ (by simp;omega) ?_;simp;exact⟨wI,wI⟩
  ·simp at h;rw[zj9 (by omega)]at hx2;simp[hx2]
 ·have hj:j=t.kids.length:=by simp at h;omega
  subst hj;rw[aO,qA]at hx2;simp[hx2]
mutual
theorem U1:∀(t:gT) (m:Int),1<=m->m<=1000->gU Pg 161 [.agg t.enc,.one (.int .i64 m)] (.one (.int .i64 (nN t m)))
|.mk k n s l,m,h1,h2=>zmV (.mk k n s l) (λe h=>U2 l e h) m h1 h2
theorem U2:∀(l:List gT) (e:gT),e∈l->∀m:Int,1<=m->m<=1000->gU Pg 161 [.agg e.enc,.one (.int .i64 m)] (.one (.int .i64 (nN e m)))
|[],e,h=>by cases h
|d::l,e,h=>by
 cases h with
 |head=>exact U1 d
 |tail _ h=>exact U2 l e h
end
theorem ME(t:gT):gU Pg 129 [.agg t.enc] (.one (.int .i64 (nN t 201))):=by
 refine zkN (by simp) λo c hN hp=>?_;unfold TU;simp;refine gQ (U1 t 201 (by omega) (by omega)) ?_;simp
theorem MF(f:gT->Int)(B:Int):∀(l:List gT) (a:Int),0<=a->a<=B->(∀x,x∈l->f x<=B)->0<=l.foldl (λh k=>if h<f k then f k else h) a/\l.foldl (λh k=>if h<f k then f k else h) a<=B
|[],a,h0,h,_=>⟨h0,h⟩
|x::l,a,h0,h,hl=>by
 have hx:=hl x (by simp);rw[foldl_cons];split
 ·exact MF f B l _ (by omega) hx λy hy=>hl y (by simp[hy])
 ·exact MF f B l _ h0 h λy hy=>hl y (by simp[hy])
theorem U3:∀(n:Nat) (t:gT),1<=nW n t/\nW n t<=max 1 n
|0,t=>by rw[nW];omega
|1,t=>by rw[nW];omega
|n+2,t=>by
 rw[nW];have:=MF (nW (n+1)) (n+1) t.kids 0 (by omega) (by omega) λx _=>by have:=U3 (n+1) x;omega
 omega
theorem U4:∀(n:Nat) (t:gT),n<=100->gU Pg 160 [.agg t.enc,.one (.int .i64 n)] (.one (.int .i64 (nW n t)))
|0,t,hn=>by
 refine Lf (by simp) λo c hN hp=>?_;unfold IY;simp[nW]
|1,t,hn=>by
 refine Lf (by simp) λo c hN hp=>?_;unfold IY;simp[nW]
| n+2,t,hn=>by
 refine Lf (by simp) λo c hN hp=>?_;have hf:=BO o.1;unfold zah at hf;have e:nW (n+2) t=t.kids.foldl (λh k=>if h<nW (n+1) k then nW (n+1) k else h) 0+1:=by rw[nW]
 rw[e];obtain⟨R,hR⟩:∃R,t.kids.foldl (λh k=>if h<nW (n+1) k then nW (n+1) k else h) 0=R:=⟨_,rfl⟩
 rw[hR];unfold IY;have hne:¬(((n+2:Nat):Int)<=1):=by omega
 have hne':¬((n:Int)+2<=1):=by omega
 have hw:IntKind.i64.wrap ((n:Int)+2-1)=((n+1:Nat):Int):=by rw[wI];omega
 simp[hne,hne'];refine fO gy hp (λx:Nat × Int=>x.1<=t.kids.length/\(0<=x.2/\x.2<=n+1)/\(t.kids.drop x.1).foldl (λh k=>if h<nW (n+1) k then nW (n+1) k else h) x.2=R) (λx=>[(6,.c (.d (.int .i64 x.1))),(5,.c (.d (.int .i64 x.2))),(1,.c (.d (.int .i64 (n+2:Nat)))),(2,.c (.d (.rp t.enc 0)))]) (λ_=>[]) (λx=>t.kids.length-x.1) (0,0) [] ⟨by simp,⟨by simp,by simp only;omega⟩,by simpa using hR⟩ (by simp) λ⟨j,r⟩ ⟨hx1,hx3,hx2⟩=>?_;unfold TW;simp only at hx1 hx2 hx3;simp;apply gM<;>intro h
 ·have hj:j<t.kids.length:=by simpa using h
  rw[aD hj,foldl_cons]at hx2;simp[aA hj,hw];refine gQ (U4 (n+1) t.kids[j] (by omega)) ?_;have hle:=U3 (n+1) t.kids[j];generalize nW (n+1) t.kids[j]=q at*
  by_cases hq:r<q
  ·rw[aC hq]at hx2;simp[hq];refine fF (j+1,q) [] ⟨by simp;omega,by simp only;omega,hx2⟩ (by simp;omega) ?_;simp;exact wI
  ·rw[aB hq]at hx2;simp[hq];refine fF (j+1,r) [] ⟨by simp;omega,by simp only;omega,hx2⟩ (by simp;omega) ?_;simp;exact wI
 ·have hj:j=t.kids.length:=by simp at h;omega
  subst hj;rw[aO,foldl_nil]at hx2;subst hx2;exact wI
theorem FD(t:gT):gU Pg 128 [.agg t.enc] (.one (.int .i64 (nW 17 t))):=by
 refine ziU (by simp) λo c hN hp=>?_;unfold TV;simp;refine gQ (U4 17 t (by omega)) ?_;simp
theorem Ce(t:gT):gU Pg 152 [.agg t.enc] (.one (.int .i64 (iH t))):=by
 refine zlu (by simp) λo c hN hp=>?_;unfold Tj iH;by_cases h1:t.kind=1
 ·simp[h1];exact wI
 by_cases h2:t.kind=2
 ·simp[h2];exact wI
 by_cases h3:t.kind=3
 ·simp[h3];exact wI
 by_cases h4:t.kind=4
 ·simp[h4];exact wI
 by_cases h5:t.kind=5
 ·simp[h5];exact wI
 by_cases h6:t.kind=6
 ·simp[h6];exact wI
 rw[aC (by omega)];simp[h1,h2,h3,h4,h5,h6]
theorem FE:∀(a b:List gT),qM a b=lD kg a b
|[],[]=>rfl
|[],_::_=>rfl
|_::_,[]=>rfl
|x::a,y::b=>by rw[qM,lD,FE a b]
theorem MG(a b:gT):kg a b=(decide (a.kind=b.kind)&&(decide (a.name=b.name)&&(decide (a.names=b.names)&&lD kg a.kids b.kids))):=by
 cases a;rw[kg,FE];try rfl
theorem Cf{α:Type}{q:α->α->Bool}:∀{a b:List α},lD q a b=true->a.length=b.length
|[],[],_=>rfl
|[],_::_,h=>by cases h
|_::_,[],h=>by cases h
|x::a,y::b,h=>by
 rw[lD,aF]at h;simp[Cf h.2]
theorem zmW{α:Type}{a b:List α}{j:Nat}(h1:j<a.length)(h2:j<b.length)(h:a.take j=b.take j)(e:a[j]=b[j]):a.take (j+1)=b.take (j+1):=by
 rw[aJ h1,aJ h2,h,e]
theorem zmX(a b:gT)(ih:∀x,x∈a.kids->∀y,gU Pg 77 [.agg x.enc,.agg y.enc] (.one (.bool (kg x y)))):gU Pg 77 [.agg a.enc,.agg b.enc] (.one (.bool (kg a b))):=by
 have e:=MG a b;refine zkO (by simp) λo c hN hp=>?_;have hf:=BO o.1;unfold zah at hf;generalize kg a b=R at*
 have k2:∀{Q:Exit->St->Prop} {S:St} {g} {ms:List Nat} (hl:a.kids.length=b.kids.length) (h0:iM ms S [(6,.c (.d (.int .i64 0))),(3,.c (.d (.rp b.enc 0))),(2,.c (.d (.rp a.enc 0)))] []),
   (lD kg a.kids b.kids=false->∀T M n,Abs.look T 4=.c (.d (.bool false))->Q .ret ⟨T,M,n⟩)->(lD kg a.kids b.kids=true->∀T M n,Q (.exit 2) ⟨T,M,n⟩)->mW Pg c Lh Q g S:=by
  intro Q S g ms hl h0 hn hy;refine fO gy hp (λj:Nat=>j<=a.kids.length/\lD kg (a.kids.drop j) (b.kids.drop j)=lD kg a.kids b.kids) (λj=>[(6,.c (.d (.int .i64 j))),(3,.c (.d (.rp b.enc 0))),(2,.c (.d (.rp a.enc 0)))]) (λ_=>[]) (λj=>a.kids.length-j) 0 ms ⟨by simp,by simp⟩ h0 λj ⟨h1,h2⟩=>?_;unfold Lh;simp;apply gM<;>intro h
  ·have hj:j<a.kids.length:=by simpa using h
   have hj2:j<b.kids.length:=by omega
   rw[aD hj,aD hj2,lD]at h2;simp[aA hj,aA hj2];refine gQ (ih _ (aR hj) _) ?_;generalize kg a.kids[j] b.kids[j]=q at*
   cases q with
   |true=>
    simp at h2;simp;refine⟨by decide,?_⟩;refine fF (j+1) [] ⟨by omega,h2⟩ (by omega) ?_;simp;exact wI
   |false=>
    simp at h2;simp;exact⟨by decide,hn h2 _ _ _ (by simp)⟩
  ·have hj:j=a.kids.length:=by simp at h;omega
   subst hj;rw[aO,hl,aO]at h2;exact hy h2.symm _ _ _
 have k1:∀{Q:Exit->St->Prop} {S:St} {g} {ms:List Nat} (hl:a.names.length=b.names.length) (h0:iM ms S [(5,.c (.d (.int .i64 0))),(3,.c (.d (.rp b.enc 0))),(2,.c (.d (.rp a.enc 0)))] []),
   (a.names≠b.names->∀T M n,Abs.look T 4=.c (.d (.bool false))->Q .ret ⟨T,M,n⟩)->(a.names=b.names->∀T M n,Abs.look T 2=.c (.d (.rp a.enc 0))->Abs.look T 3=.c (.d (.rp b.enc 0))->Q (.exit 0) ⟨T,M,n⟩)->mW Pg c Lg Q g S:=by
  intro Q S g ms hl h0 hn hy;refine fO gy hp (λj:Nat=>j<=a.names.length/\a.names.take j=b.names.take j) (λj=>[(5,.c (.d (.int .i64 j))),(3,.c (.d (.rp b.enc 0))),(2,.c (.d (.rp a.enc 0)))]) (λ_=>[]) (λj=>a.names.length-j) 0 ms ⟨by simp,by simp⟩ h0 λj ⟨h1,h2⟩=>?_;unfold Lg;simp;apply gM<;>intro h
  ·have hj:j<a.names.length:=by simpa using h
   have hj2:j<b.names.length:=by omega
   simp[aA hj,aA hj2];by_cases q:a.names[j]=b.names[j]
   ·simp[q];refine⟨by decide,?_⟩;refine fF (j+1) [] ⟨by omega,zmW hj hj2 h2 q⟩ (by omega) ?_;simp;exact wI
   ·simp[q];exact⟨by decide,hn (λz=>q (by simp[z])) _ _ _ (by simp)⟩
  ·have hj:j=a.names.length:=by simp at h;omega
   subst hj;rw[bO,hl,bO]at h2;exact hy h2 _ _ _ (by simp) (by simp)
 unfold TZ;by_cases q1:a.kind=b.kind;rotate_left
 ·simp[q1]at e;simp[q1,e]
 by_cases q2:a.name=b.name;rotate_left
 ·simp[q2]at e;simp[q1,q2,e]
 by_cases q3:a.names.length=b.names.length;rotate_left
 ·have:¬a.names=b.names:=λz=>q3 (by rw[z]);have q3':¬(a.names.length:Int)=b.names.length:=by omega
  simp[this]at e;simp[q1,q2,q3,q3',e]
 by_cases q4:a.kids.length=b.kids.length;rotate_left
 ·have:lD kg a.kids b.kids=false:=by
   cases h:lD kg a.kids b.kids with
   |false=>rfl
   |true=>exact absurd (Cf h) q4
  have q4':¬(a.kids.length:Int)=b.kids.length:=by omega
  simp[this]at e;simp[q1,q2,q3,q4,q4',e]
 simp[q1,q2,q3,q4];refine k1 q3 (ms:=[]) (by simp) (λhn T M n t4=>?_) (λhy T M n t2 t3=>?_)
 ·simp[hn]at e;simp[t4,e]
 ·simp[q1,q2,hy]at e;simp;refine k2 q4 (ms:=[]) (by simp[t2,t3]) (λhn T M n t4=>?_) (λhy T M n=>?_)
  ·rw[hn]at e;simp[t4,e]
  ·rw[hy]at e;simp[e]
mutual
theorem Dv:∀(a b:gT),gU Pg 77 [.agg a.enc,.agg b.enc] (.one (.bool (kg a b)))
|.mk k n s l,b=>zmX _ b λx hx y=>U5 l x hx y
theorem U5:∀(l:List gT) (x:gT),x∈l->∀y,gU Pg 77 [.agg x.enc,.agg y.enc] (.one (.bool (kg x y)))
|c::l,x,h,y=>by
 cases aN.1 h with
 |inl e=>rw[e];exact Dv c y
 |inr e=>exact U5 l x e y
end
theorem MH(s:fE):∀l,jU s l<=l.length
|[]=>aM _
|n::l=>by have:=MH s l;unfold jU;split<;>simp<;>omega
abbrev tX:Blk:=.box [.d (.int .i64 0),.d (.str (bs [])),.d (.sl true 1 []),.d (.sl true 4 [])]
abbrev xS(ns:List fE)(ts:List gT)(i:Nat):List (Nat × AV):=[(7,.c (.d (.int .i64 i))),(6,.c (.ptr 1 0)),(4,.c (.ptr 0 0)),(1,.c (.d (.sl false 4 (ts.map gT.enc)))),(0,.c (.d (.sl false 1 (encS ns))))]
abbrev uR(ns:List fE)(ks:List gT):List Blk:=[tX,.box [.d (.int .i64 5),.d (.str (bs [])),.msl 1 2 0 ns.length,.msl 4 3 0 ks.length],.arr 1 ((encS ns).map (·.map .d)),.arr 4 ((ks.map gT.enc).map (·.map .d))]
theorem znO{c:Ctx}(hp:c.pure)(ns:List fE)(ts:List gT)(i:Nat)(hi:i<ns.length)(ok:Bool)(ms:List fE)(ks:List gT)(hms:ms.length<=100){Q:Exit->St->Prop}{S:St}{g}{l:List Nat}
  (h0:iM l S ((9,.c (.d (.int .i64 0)))::(8,.c (.d (.bool ok)))::xS ns ts i) (uR ms ks))
  (hQ:∀T,Abs.look T 9=.c (.d (.int .i64 (jU ns[i] ms)))->Abs.look T 8=.c (.d (.bool ok))->Abs.look T 7=.c (.d (.int .i64 i))->Abs.look T 6=.c (.ptr 1 0)->Abs.look T 4=.c (.ptr 0 0)->Abs.look T 1=.c (.d (.sl false 4 (ts.map gT.enc)))->Abs.look T 0=.c (.d (.sl false 1 (encS ns)))->Q (.exit 2) ⟨T,hpOf (uR ms ks),4⟩):mW Pg c Lj Q g S:=by
 refine fO gy hp (λk:Nat=>k<=ms.length/\k+jU ns[i] (ms.drop k)=jU ns[i] ms) (λk=>(9,.c (.d (.int .i64 k)))::(8,.c (.d (.bool ok)))::xS ns ts i) (λ_=>uR ms ks) (λk=>ms.length-k) 0 l ⟨by simp,by simp⟩ h0 λk ⟨h1,h2⟩=>?_;unfold Lj;simp;apply gM<;>intro h
 ·have hk:k<ms.length:=by simpa using h
  rw[aD hk,jU]at h2;simp[aA hk,aA hi];refine⟨hk,by decide,?_⟩;apply gM<;>intro h
  ·rw[aC (by unfold Dr;exact h)]at h2;refine fF (k+1) [0,1,2,3] ⟨by omega,by omega⟩ (by omega) ?_;simp;exact wI
  ·rw[aB (by unfold Dr;simpa using h)]at h2;exact hQ _ (by simp;omega) (by simp) (by simp) (by simp) (by simp) (by simp) (by simp)
 ·have hk:k=ms.length:=by simp at h;omega
  subst hk;rw[aO,jU]at h2;simp;exact⟨by decide,hQ _ (by simp;omega) (by simp) (by simp) (by simp) (by simp) (by simp) (by simp)⟩
theorem MJ(ms:List fE)(ks:List gT):gT.enc (.mk 5 (bs []) ms ks)=[.int .i64 5,.str (bs []),.sl false 1 (encS ms),.sl false 4 (ks.map gT.enc)]:=by rw[gT.enc_eq];try rfl
theorem vR(ks:List gT):take ks.length (List.map ((λx=>List.map AC.d x)∘gT.enc) ks)=List.map ((λx=>List.map AC.d x)∘gT.enc) ks:=aG (by simp)
theorem znP(ms:List fE):take ms.length (List.map (λx=>List.map AC.d x) (encS ms))=List.map (λx=>List.map AC.d x) (encS ms):=aG (by simp)
theorem mid{α:Type}{l:List α}{k n:Nat}(hn:n=l.length)(hk:k<=l.length)(x:α):take (k+1) (take k (take k l)++[x])++take (n-k) (drop k l)=take k l++x::drop k l:=by
 subst hn;rw[aG (l:=take k (take k l)++[x]) (by simp;omega),aG (l:=drop k l) (by simp),take_take,eB,cO];rfl
theorem I4{ks:List gT}{L:List (List AC)}(h:∀x,x∈L->x∈List.map ((λx=>List.map AC.d x)∘gT.enc) ks)(n:Nat):∀x,x∈L->AC.lts n x=true:=λx hx=>by
 obtain⟨t,_,rfl⟩:=ae.1 (h x hx);simp
theorem MK(ns:List fE)(ts:List gT):gU Pg 162 [.one (.sl false 1 (encS ns)),.one (.sl false 4 (ts.map gT.enc))] (.tup [.agg (yV ns ts).1.enc,.one (.bool (yV ns ts).2)]):=by
 refine ziV (by simp) λo c hN hp=>?_;have hb:gT.enc (.mk 5 (bs []) [] [])=[.int .i64 5,.str (bs []),.sl false 1 [],.sl false 4 []]:=rfl;obtain⟨R,hR⟩:∃R,yV ns ts=R:=⟨_,rfl⟩
 rw[hR];unfold yV at hR;unfold Td;by_cases h1:ns.length=ts.length;rotate_left
 ·have h1':¬(ns.length:Int)=ts.length:=by omega
  rw[aC (.inl h1)]at hR;subst hR;simp[h1,h1',hb]
 by_cases h2:16<ns.length
 ·have h2':(16:Int)<ns.length:=by omega
  have h2'':(16:Int)<ts.length:=by omega
  rw[aC (.inr h2)]at hR;subst hR;simp[h1,h2',h2'',hb]
 have h2':¬(16:Int)<ns.length:=by omega
 have h2'':¬(16:Int)<ts.length:=by omega
 rw[aB (by omega)]at hR;simp[h1,h2',h2''];refine fU [.c 1 2,.c 1 3] ?_;simp;refine fO gy hp (λx:Nat × List fE × List gT=>x.1<=ns.length/\x.2.1.length=x.2.2.length/\x.2.1.length<=x.1/\jw (ns.drop x.1) (ts.drop x.1) x.2.1 x.2.2=jw ns ts [] []) (λx=>xS ns ts x.1) (λx=>uR x.2.1 x.2.2) (λx=>ns.length-x.1) (0,[],[]) [0,1,2,3] ⟨by simp,rfl,by simp,by simp⟩ (by simp[encS]) λ⟨i,ms,ks⟩ ⟨i1,i2,i3,i4⟩=>?_;unfold Tc;simp only at i1 i2 i3 i4;simp;apply gM<;>intro h
 ·have hi:i<ns.length:=by simpa using h
  have ht:i<ts.length:=by omega
  rw[aD hi,aD ht,jw]at i4;simp[aA hi];refine gQ (IR _) ?_;simp;refine znO hp ns ts i hi (mY ns[i]) ms ks (by omega) (l:=[0,1,2,3]) (by simp) λT t9 t8 t7 t6 t4 t1 t0=>?_;have hpl:=MH ns[i] ms;generalize jU ns[i] ms=k at*
  simp[t9,t8,t7,t6];by_cases hn:mY ns[i]=true;rotate_left
  ·rw[aC (.inl (by simpa using hn))]at i4;rw[<-i4]at hR;subst hR;have z1:take ms.length (encS ms)=encS ms:=aG (by simp);have z2:take ks.length (List.map gT.enc ks)=List.map gT.enc ks:=aG (by simp);simp[hn,t4];refine⟨by decide,?_⟩;simp[z1,z2,MJ]
  have hks:k<=ks.length:=by omega
  have hmin:min k ms.length=k:=by omega
  have hmin2:min k ks.length=k:=by omega
  by_cases hk:k<ms.length
  ·by_cases he:ms[k]=ns[i]
   ·rw[aC (.inr (by rw[aA hk,he]))]at i4;rw[<-i4]at hR;subst hR;have z1:take ms.length (encS ms)=encS ms:=aG (by simp);have z2:take ks.length (List.map gT.enc ks)=List.map gT.enc ks:=aG (by simp);simp[hn,t4,t0,hk,aA hk,aA hi,he];refine⟨by decide,?_⟩;simp[z1,z2,MJ]
   ·rw[aB (by rw[aA hk];simp[hn,he])]at i4;simp[hn,t4,t0,t1,hk,aA hk,aA hi,aA ht,he,hmin,hmin2,hpl,hks];refine⟨by decide,by omega,by omega,by omega,by omega,by omega,by omega,?_⟩;refine fF (i+1,ms.take k++ns[i]::ms.drop k,ks.take k++ts[i]::ks.drop k) [0,1,6,9] ⟨by simp only;omega,by simp;omega,by simp;omega,i4⟩ (by simp only;omega) ?_;simp[t0,t1,t4,t6,t7];refine⟨wI,⟨by omega,by omega⟩,?_,mid (by simp) (by simp;omega) _,I4 (λx hx=>bY hx) 4,I4 (λx hx=>dQ hx) 4⟩;rw[mid (l:=List.map (λx=>List.map AC.d x) (encS ms)) (by simp) (by simp;omega)];simp[encS,map_take,map_drop]
  ·have hk2:k=ms.length:=by omega
   rw[aB (by rw[aS (by omega)];simp[hn])]at i4;simp[hn,t4,t0,t1,hk,aA hi,aA ht,hmin,hmin2,hpl,hks];refine⟨by decide,by omega,by omega,by omega,by omega,by omega,by omega,?_⟩;refine fF (i+1,ms.take k++ns[i]::ms.drop k,ks.take k++ts[i]::ks.drop k) [0,1,6,9] ⟨by simp only;omega,by simp;omega,by simp;omega,i4⟩ (by simp only;omega) ?_;simp[t0,t1,t4,t6,t7];refine⟨wI,⟨by omega,by omega⟩,?_,mid (by simp) (by simp;omega) _,I4 (λx hx=>bY hx) 4,I4 (λx hx=>dQ hx) 4⟩;rw[mid (l:=List.map (λx=>List.map AC.d x) (encS ms)) (by simp) (by simp;omega)];simp[encS,map_take,map_drop]
 ·have hi:i=ns.length:=by simp at h;omega
  subst hi;rw[aO,jw]at i4;rotate_left
  ·intros;contradiction
  rw[<-i4]at hR;subst hR;have z1:take ms.length (List.map (λx=>List.map AC.d x) (encS ms))=List.map (λx=>List.map AC.d x) (encS ms):=znP ms;have z3:take ms.length (encS ms)=encS ms:=aG (by simp);have z4:take ks.length (List.map gT.enc ks)=List.map gT.enc ks:=aG (by simp);simp[z1,vR,MJ,z3,z4]
theorem Dw(ks:List gT):gT.enc (.mk 7 (bs []) [] ks)=[.int .i64 7,.str (bs []),.sl false 1 [],.sl false 4 (ks.map gT.enc)]:=by rw[gT.enc_eq];try rfl
mutual
theorem ML:∀t:gT,kg t t=true
|.mk k n s l=>by rw[kg];simp[gT.kind,gT.name,gT.names,gT.kids,U6 l]
theorem U6:∀l:List gT,qM l l=true
|[]=>rfl
|t::l=>by rw[qM,ML t,U6 l];try rfl
end
abbrev oD(l:List gT):Blk:=.arr 4 ((l.map gT.enc).map (·.map .d))
abbrev AR(all ks:List gT):List Blk:=[tX,oD all,.box [.d (.int .i64 7),.d (.str (bs [])),.d (.sl true 1 []),.msl 4 3 0 ks.length],oD ks]
abbrev vS(all:List gT)(tag:Nat):List (Nat × AV):=[(7,.c (.d (.int .i64 tag))),(6,.c (.ptr 2 0)),(4,.c (.msl 4 1 0 all.length)),(2,.c (.ptr 0 0))]
theorem MM(tag:Int):∀(l:List gT) (had:Bool) (ks:List gT),(jV tag l had ks).1.2.length<=ks.length+l.length
|[],had,ks=>by simp[jV]
| x::l,had,ks=>by
 have h:(if had=true then ks else ks++[x]).length<=ks.length+1:=by split<;>simp
 rw[jV];by_cases h0:x.kind=0
 ·rw[aC h0];simp
 rw[aB h0];by_cases h1:iH x≠tag
 ·rw[aC h1];have:=MM tag l had ks;rw[length_cons];omega
 rw[aB h1];simp only;generalize (if had=true then ks else ks++[x])=k2 at*
 split
 ·have:=MM tag l true k2;rw[length_cons];omega
 ·rw[length_cons];simp only;omega
theorem zn0{c:Ctx}(hp:c.pure)(all:List gT)(hall:all.length<=1000000)(tag:Nat)(htag:tag<6)(ks:List gT)(hks:ks.length<=10000000)(F0:(Bool × List gT) × Bool)(hF:jV tag all false ks=F0){Q:Exit->St->Prop}{S:St}{g}{ms:List Nat}
  (h0:iM ms S ((9,.c (.d (.int .i64 0)))::(8,.c (.d (.bool false)))::vS all tag) (AR all ks))
  (hN:F0.2=false->∀T M n,Abs.look T 2=.c (.ptr 0 0)->Abs.look T 3=.c (.d (.bool false))->M 0=.box [.d (.int .i64 7),.d (.str (bs [])),.d (.sl true 1 []),.msl 4 3 0 F0.1.2.length]->M 3=oD F0.1.2->Q .ret ⟨T,M,n⟩)
  (hQ:F0.2=true->∀T,Abs.look T 7=.c (.d (.int .i64 tag))->Abs.look T 6=.c (.ptr 2 0)->Abs.look T 4=.c (.msl 4 1 0 all.length)->Abs.look T 2=.c (.ptr 0 0)->Q (.exit 4) ⟨T,hpOf (AR all F0.1.2),4⟩):mW Pg c Ll Q g S:=by
 refine fO gy hp (λx:Nat × Bool × List gT=>x.1<=all.length/\x.2.2.length<=ks.length+x.1/\(x.2.1=true->x.2.2≠[])/\jV tag (all.drop x.1) x.2.1 x.2.2=F0) (λx=>(9,.c (.d (.int .i64 x.1)))::(8,.c (.d (.bool x.2.1)))::vS all tag) (λx=>AR all x.2.2) (λx=>all.length-x.1) (0,false,ks) ms ⟨by simp,by simp,by simp,by simpa using hF⟩ h0 λ⟨i,had,l⟩ ⟨h1,h2,h3,h4⟩=>?_;unfold Ll;simp only at h1 h2 h3 h4;simp;apply gM<;>intro h
 ·have hi:i<all.length:=by simpa using h
  rw[aD hi,jV]at h4;obtain⟨x,hx⟩:∃x,all[i]=x:=⟨_,rfl⟩
  have hg:all[i]?=some x:=by rw[aA hi,hx]
  rw[hx]at h4;simp[hi,hx,hg];by_cases k0:x.kind=0
  ·rw[aC k0]at h4;subst h4;simp[k0];exact hN rfl _ _ _ (by simp) (by simp) (by simp) (by simp)
  rw[aB k0]at h4;simp[k0,hi,hx,hg];refine gQ (Ce x) ?_;by_cases kt:iH x=tag;rotate_left
  ·rw[aC kt]at h4;simp[kt];refine fF (i+1,had,l) [0,1,2,3] ⟨by simp only;omega,by simp only;omega,h3,h4⟩ (by simp only;omega) ?_;simp;exact wI
  rw[aB (λz=>z kt)]at h4;cases had with
  |false=>
   simp only[aa,if_false,getLastD_concat]at h4;have hw:IntKind.i64.wrap ((l.length:Int)+1-1)=(l.length:Int):=by rw[wI];omega
   have z:take l.length (List.map ((λx=>List.map AC.d x)∘gT.enc) l)=List.map ((λx=>List.map AC.d x)∘gT.enc) l:=vR l;have hwl:IntKind.i64.wrap (l.length:Int)=(l.length:Int):=wI;have g:(List.map ((λx=>List.map AC.d x)∘gT.enc) l++[List.map AC.d x.enc])[l.length]?=some (List.map AC.d x.enc):=by simp
   simp[kt,hi,hx,hg,hwl,z,g];refine⟨by omega,by decide,by omega,?_⟩;refine gQ (Dv _ _) ?_;have hs:=ML x;rw[aC hs]at h4;simp[hs];refine⟨by decide,?_⟩;refine fF (i+1,true,l++[x]) [0,1,2,4] ⟨by simp only;omega,by simp;omega,by simp,h4⟩ (by simp only;omega) ?_;simp;exact wI
  | true=>
   have hne:=h3 rfl;simp only[if_true]at h4;have hlp:0<l.length:=List.length_pos_iff.2 hne;have hw:IntKind.i64.wrap ((l.length:Int)-1)=((l.length-1:Nat):Int):=by rw[wI];omega
   have hlast:l.getLastD noT=l[l.length-1]:=by
    rw[getLastD_eq_getLast?,getLast?_eq_getElem?,aA (by omega)];try rfl
   rw[hlast]at h4;have hlt:l.length-1<l.length:=by omega
   simp[kt,hi,hx,hg,hw,aA hlt,hlt];refine gQ (Dv _ _) ?_;by_cases hs:kg x l[l.length-1]=true
   ·rw[aC hs]at h4;simp[hs];refine⟨by decide,?_⟩;refine fF (i+1,true,l) [0,1,2,3] ⟨by simp only;omega,by simp only;omega,λ_=>hne,h4⟩ (by simp only;omega) ?_;simp;exact wI
   ·rw[aB hs]at h4;subst h4;simp[hs];refine⟨by decide,?_⟩;exact hN rfl _ _ _ (by simp) (by simp) (by simp) (by simp)
 ·have hi:i=all.length:=by simp at h;omega
  subst hi;rw[aO,jV]at h4;subst h4;exact hQ rfl _ (by simp) (by simp) (by simp) (by simp)
def BP(i:Nat):List Int:=[0,1,2,3,4,5].drop i
theorem U7{i:Nat}(h:i<6):BP i=(i:Int)::BP (i+1):=by
 have:∀i:Fin 6,BP i.val=((i.val:Nat):Int)::BP (i.val+1):=by decide
 exact this ⟨i,h⟩
theorem MN(kids:List gT)(hk:(kids.flatMap iX).length<=1000000)(hkl:kids.length<=1000000):gU Pg 163 [.one (.sl false 4 (kids.map gT.enc))] (.tup [.agg (zJ kids).1.enc,.one (.bool (zJ kids).2)]):=by
 refine zjZ (by simp) λo c hN hp=>?_;obtain⟨R,hR⟩:∃R,zJ kids=R:=⟨_,rfl⟩
 rw[hR];unfold zJ at hR;simp only at hR;obtain⟨all,hal⟩:∃all,kids.flatMap iX=all:=⟨_,rfl⟩
 rw[hal]at hR hk;unfold Ti;simp;refine fU [.t 4] ?_;simp;refine fO gy hp (λx:Nat × List gT=>x.1<=kids.length/\x.2++(kids.drop x.1).flatMap iX=all) (λx=>[(5,.c (.d (.int .i64 x.1))),(4,.c (.msl 4 1 0 x.2.length)),(2,.c (.ptr 0 0)),(0,.c (.d (.sl false 4 (kids.map gT.enc))))]) (λx=>[tX,oD x.2]) (λx=>kids.length-x.1) (0,[]) [0,1] ⟨by simp,by simpa using hal⟩ (by simp) λ⟨j,l⟩ ⟨h1,h2⟩=>?_;unfold Te;simp only at h1 h2;simp;apply gM<;>intro h
 ·have hj:j<kids.length:=by simpa using h
  obtain⟨x,hx⟩:∃x,kids[j]=x:=⟨_,rfl⟩
  have hg:kids[j]?=some x:=by rw[aA hj,hx]
  rw[aD hj,hx,flatMap_cons,<-cO]at h2;have hll:=dO length h2;rw[aX,aX]at hll;by_cases k7:x.kind=7
  ·have hm:iX x=x.kids:=by unfold iX;rw[aC k7]
   rw[hm]at h2 hll;simp[hj,hx,hg,k7];refine⟨by omega,?_⟩;refine fF (j+1,l++x.kids) [0,2] ⟨by simp only;omega,h2⟩ (by simp only;omega) ?_;simp;exact⟨wI,vR l⟩
  ·have hm:iX x=[x]:=by unfold iX;rw[aB k7]
   rw[hm]at h2 hll;simp only[length_singleton]at hll;simp[hj,hx,hg,k7];refine⟨by omega,?_⟩;refine fF (j+1,l++[x]) [0,2] ⟨by simp only;omega,h2⟩ (by simp only;omega) ?_;simp;exact⟨wI,vR l⟩
 ·have hj:j=kids.length:=by simp at h;omega
  subst hj;rw[aO,flatMap_nil,bL]at h2;subst h2;simp;refine fU [.c 2 3] ?_;simp;refine fO gy hp (λx:Nat × List gT=>x.1<=6/\x.2.length<=x.1*l.length/\qO l (BP x.1) x.2=qO l [0,1,2,3,4,5] []) (λx=>vS l x.1) (λx=>AR l x.2) (λx=>6-x.1) (0,[]) [0,1,2,3] ⟨by simp,by simp,rfl⟩ (by simp) λ⟨t,ks⟩ ⟨i1,i2,i3⟩=>?_;unfold Tf;simp only at i1 i2 i3;simp;have hmul:t*l.length<=6*1000000:=Nat.mul_le_mul i1 hk;have htl:=MM t l false ks;apply gM<;>intro h
  ·have ht:t<6:=by simp at h;omega
   rw[U7 ht,qO]at i3;refine zn0 hp l hk t ht ks (by omega) _ rfl (ms:=[0,1,2,3]) (by simp) (λhf T M n t2 t3 m0 m3=>?_) (λhf T t7 t6 t4 t2=>?_)
   ·rw[aB (by rw[hf];simp)]at i3;rw[<-i3]at hR;simp at hR;subst hR;simp[t2,t3,m0,m3,Dw];exact aG (by simp)
   ·rw[aC hf]at i3;simp[t7];refine fF (t+1,(jV t l false ks).1.2) [0,1,2,3] ⟨by simp only;omega,by simp only;rw[az];omega,i3⟩ (by simp only;omega) ?_;simp[t7,t6,t4,t2];exact wI
  ·have ht:t=6:=by simp at h;omega
   subst ht;rw[show BP 6=[]from rfl,qO]at i3;rw[<-i3]at hR;simp only[if_true]at hR;have z4:take ks.length (List.map gT.enc ks)=List.map gT.enc ks:=aG (by simp)
   match ks,i2,hR,z4 with
   |[],i2,hR,z4=>
    simp at hR;subst hR;simp;exact⟨by decide,by rw[Dw];rfl⟩
   |[x],i2,hR,z4=>
    simp at hR;subst hR;simp;rw[gT.enc_eq];try rfl
   |x::y::l2,i2,hR,z4=>
    simp at hR;subst hR;have h1:¬((l2.length:Int)+1+1=1):=by omega
    have h2:¬(l2.length+1+1=1):=by omega
    have h3:(0:Int)<(l2.length:Int)+1+1:=by omega
    simp[h1,h2,h3];exact⟨by decide,by rw[Dw,aG (by simp)];rfl⟩
mutual
def kr:gT->Prop
|.mk _ _ _ l=>l.length<=200/\qY l
def qY:List gT->Prop
|[]=>True
|t::l=>kr t/\qY l
end
mutual
theorem FF:∀(t:gT) (m:Int),m<=201->nN t m<m->kr t
|.mk k n s l,m,h1,h2=>by
 rw[nN]at h2;have:=U8 l m 1 h1 (by omega) h2;rw[kr];exact⟨by omega,this.2⟩
theorem U8:∀(l:List gT) (m n:Int),m<=201->1<=n->qA l m n<m->n+l.length<=qA l m n/\qY l
|[],m,n,_,_,h=>by rw[qA]at*;exact⟨by simp,trivial⟩
| t::l,m,n,h1,h2,h3=>by
 have hle:=IZ t (m-n);rw[qA]at h3⊢;split
 ·rename_i q;rw[aC q]at h3;have i:=U8 l m (n+nN t (m-n)) h1 (by omega) h3;have hle2:=I1 l m (n+nN t (m-n)) (by omega);rw[length_cons];exact⟨by omega,FF t (m-n) (by omega) (by omega),i.2⟩
 ·rename_i q;rw[aB q]at h3;omega
end
theorem I5:∀l:List gT,qY l↔∀x,x∈l->kr x
|[]=>by simp[qY]
|t::l=>by simp[qY,I5 l]
theorem MP(tag:Int):∀(l:List gT) (had:Bool) (ks:List gT),(jV tag l had ks).1.2.length<=ks.length+(if had=true then 0 else 1)
|[],had,ks=>by simp[jV]
| x::l,had,ks=>by
 have h:(if had=true then ks else ks++[x]).length<=ks.length+(if had=true then 0 else 1):=by cases had<;>simp
 rw[jV];by_cases h0:x.kind=0
 ·rw[aC h0];simp
 rw[aB h0];by_cases h1:iH x≠tag
 ·rw[aC h1];exact MP tag l had ks
 rw[aB h1];simp only;generalize (if had=true then ks else ks++[x])=k2 at*
 split
 ·have:=MP tag l true k2;simp only[if_true]at this;omega
 ·exact h
theorem MQ(tag:Int):∀(l:List gT) (had:Bool) (ks:List gT) (y:gT),y∈(jV tag l had ks).1.2->y∈ks\/(y∈l/\iH y=tag)
|[],had,ks,y,h=>by simp[jV]at h;exact .inl h
| x::l,had,ks,y,h=>by
 have h2:∀z,z∈(if had=true then ks else ks++[x])->z∈ks\/z=x:=λz hz=>by cases had<;>simp at hz<;>simp[hz]
 rw[jV]at h;by_cases h0:x.kind=0
 ·rw[aC h0]at h;exact .inl h
 rw[aB h0]at h;by_cases h1:iH x≠tag
 ·rw[aC h1]at h;rcases MQ tag l had ks y h with q|⟨q,r⟩
  ·exact .inl q
  ·exact .inr ⟨by simp[q],r⟩
 rw[aB h1]at h;have hx:iH x=tag:=bC h1;simp only at h;generalize (if had=true then ks else ks++[x])=k2 at*
 have fin:y∈k2->y∈ks\/(y∈x::l/\iH y=tag):=λhy=>by
  rcases h2 y hy with q|rfl
  ·exact .inl q
  ·exact .inr ⟨by simp,hx⟩
 split at h
 ·rcases MQ tag l true k2 y h with q|⟨q,r⟩
  ·exact fin q
  ·exact .inr ⟨by simp[q],r⟩
 ·exact fin h
theorem MS(all:List gT):∀(l:List Int) (ks:List gT),(qO all l ks).1.length<=ks.length+l.length
|[],ks=>by simp[qO]
| t::l,ks=>by
 have h1:=MP t all false ks;simp only[aa,if_false]at h1;rw[qO,length_cons];split
 ·have:=MS all l (jV t all false ks).1.2;omega
 ·simp only;omega
theorem I6(all:List gT):∀(l:List Int) (ks:List gT) (y:gT),y∈(qO all l ks).1->y∈ks\/(y∈all/\iH y∈l)
|[],ks,y,h=>by simp[qO]at h;exact .inl h
| t::l,ks,y,h=>by
 rw[qO]at h;have fin:y∈(jV t all false ks).1.2->y∈ks\/(y∈all/\iH y∈t::l):=λhy=>by
  rcases MQ t all false ks y hy with q|⟨q,r⟩
  ·exact .inl q
  ·exact .inr ⟨q,by simp[r]⟩
 split at h
 ·rcases I6 all l _ y h with q|⟨q,r⟩
  ·exact fin q
  ·exact .inr ⟨q,by simp[r]⟩
 ·exact fin h
theorem zlM(t:gT):(iX (lW t).1).length<=6:=by
 have one:∀x:gT,x.kind≠7->(iX x).length<=6:=λx h=>by unfold iX;rw[aB h];simp
 cases t with
 |mk k n s l=>
 rw[lW];split
 ·split
  ·unfold nz;split
   ·refine one _ ?_;unfold yV;split<;>simp[gT.kind]
   split
   ·exact one _ (by simp[gT.kind])
   ·unfold zJ;have hl:=MS ((kQ l).1.flatMap iX) [0,1,2,3,4,5] [];have hm:=I6 ((kQ l).1.flatMap iX) [0,1,2,3,4,5] [];simp only;generalize qO ((kQ l).1.flatMap iX) [0,1,2,3,4,5] []=r at*
    have seven:∀l:List gT,l.length<=6->(iX (.mk 7 (bs []) [] l)).length<=6:=λl h=>by unfold iX;exact h
    split
    ·split
     ·rename_i x e;have:=hm x (by rw[e];simp);refine one _ λh7=>?_;have h7:x.kind=7:=h7;have hb:iH x= -1:=by unfold iH;rw[aC (by omega)]
      rw[hb]at this;simp at this
     ·rename_i e;exact seven _ (by simpa using hl)
    ·exact seven _ (by simpa using hl)
  ·exact one _ (by simp[noT,gT.kind])
 ·split
  ·refine one _ ?_;show k≠7;omega
  ·exact one _ (by simp[noT,gT.kind])
theorem U9:∀l:List gT,(kQ l).1.length<=l.length
|[]=>by simp[kQ]
|t::l=>by
 have:=U9 l;rw[kQ];split<;>simp;omega
theorem Ua:∀l:List gT,((kQ l).1.flatMap iX).length<=6*l.length
|[]=>by simp[kQ]
|t::l=>by
 have h1:=Ua l;have h2:=zlM t;rw[kQ];split
 ·rw[flatMap_cons,aX,length_cons];omega
 ·simp
theorem zmN(t:gT):lW t=if 5<=t.kind/\t.kind<=7 then(if(kQ t.kids).2=true then nz t.kind t.names (kQ t.kids).1 else(noT,false))else if 0<=t.kind/\t.kind<=4 then(bT t.kind,true)else(noT,false):=by
 cases t;rw[lW];try rfl
def qD(a:List gT)(l:List gT):List gT × Bool:=if(kQ l).2=true then(a++(kQ l).1,true)else([],false)
theorem zlN(a:List gT)(t:gT)(l:List gT):qD a (t::l)=if(lW t).2=true then qD (a++[(lW t).1]) l else([],false):=by
 unfold qD;rw[kQ];by_cases h:(lW t).2=true
 ·rw[aC h,aC h];by_cases h2:(kQ l).2=true
  ·simp[h2]
  ·simp[h2]
 ·rw[aB h,aB h];simp
@[simp] theorem gT.er_map(t:gT):t.enc.map D.er=t.enc:=by rw[gT.enc_eq];try rfl
theorem vT(k:Int):(bT k).enc=[.int .i64 k,.str (bs []),.sl false 1 [],.sl false 4 []]:=by rw[gT.enc_eq];try rfl
theorem nJ:noT.enc=[.int .i64 0,.str (bs []),.sl false 1 [],.sl false 4 []]:=rfl
abbrev y8(t:gT)(j n:Nat):List (Nat × AV):=[(5,.c (.d (.int .i64 j))),(4,.c (.msl 4 1 0 n)),(2,.c (.ptr 0 0)),(1,.c (.d (.rp t.enc 0)))]
theorem Cg{c:Ctx}(hp:c.pure)(t:gT)(hl:t.kids.length<=200)(ih:∀e,e∈t.kids->gU Pg 130 [.agg e.enc] (.tup [.agg (lW e).1.enc,.one (.bool (lW e).2)])){Q:Exit->St->Prop}{S:St}{g}{ms:List Nat}
  (h0:iM ms S (y8 t 0 0) [tX,oD []])
  (hN:(kQ t.kids).2=false->∀T M n,Abs.look T 2=.c (.ptr 0 0)->Abs.look T 3=.c (.d (.bool false))->M 0=tX->Q .ret ⟨T,M,n⟩)
  (hQ:(kQ t.kids).2=true->∀T,Abs.look T 4=.c (.msl 4 1 0 (kQ t.kids).1.length)->Abs.look T 2=.c (.ptr 0 0)->Abs.look T 1=.c (.d (.rp t.enc 0))->Q (.exit 1) ⟨T,hpOf [tX,oD (kQ t.kids).1],2⟩):mW Pg c Li Q g S:=by
 have hA:qD [] t.kids=if(kQ t.kids).2=true then((kQ t.kids).1,true)else([],false):=rfl;have hN:(qD [] t.kids).2=false->∀T M n,Abs.look T 2=.c (.ptr 0 0)->Abs.look T 3=.c (.d (.bool false))->M 0=tX->Q .ret ⟨T,M,n⟩:=λh=>hN (by
  rw[hA]at h;cases e:(kQ t.kids).2 with
  |false=>rfl
  |true=>rw[aC e]at h;cases h)
 have hQ:(qD [] t.kids).2=true->∀T,Abs.look T 4=.c (.msl 4 1 0 (qD [] t.kids).1.length)->Abs.look T 2=.c (.ptr 0 0)->Abs.look T 1=.c (.d (.rp t.enc 0))->Q (.exit 1) ⟨T,hpOf [tX,oD (qD [] t.kids).1],2⟩:=λh=>by
  rw[hA]at h⊢;cases e:(kQ t.kids).2 with
  |false=>rw[e]at h;cases h
  |true=>rw[aC rfl];exact hQ e
 obtain⟨F0,hF⟩:∃F0,qD [] t.kids=F0:=⟨_,rfl⟩
 rw[hF]at hN hQ;refine fO gy hp (λx:Nat × List gT=>x.1<=t.kids.length/\x.2.length<=x.1/\qD x.2 (t.kids.drop x.1)=F0) (λx=>y8 t x.1 x.2.length) (λx=>[tX,oD x.2]) (λx=>t.kids.length-x.1) (0,[]) ms ⟨by simp,by simp,by simpa using hF⟩ h0 λ⟨j,a⟩ ⟨h1,h2,h3⟩=>?_;unfold Li;simp only at h1 h2 h3;simp;apply gM<;>intro h
 ·have hj:j<t.kids.length:=by simpa using h
  rw[aD hj,zlN]at h3;obtain⟨x,hx⟩:∃x,t.kids[j]=x:=⟨_,rfl⟩
  have hm:=aR hj;rw[hx]at h3 hm;simp[hj,hx];refine gQ (ih x hm) ?_;simp;by_cases q:(lW x).2=true
  ·rw[aC q]at h3;simp[q];refine⟨by omega,?_⟩;refine fF (j+1,a++[(lW x).1]) [0,3] ⟨by simp only;omega,by simp;omega,h3⟩ (by simp only;omega) ?_;simp;exact⟨wI,vR a⟩
  ·rw[aB q]at h3;subst h3;simp[q];exact hN rfl _ _ _ (by simp) (by simp) (by simp)
 ·have hj:j=t.kids.length:=by simp at h;omega
  subst hj;rw[aO]at h3;have e:qD a []=(a,true):=by unfold qD;simp[kQ]
  rw[e]at h3;subst h3;exact hQ rfl _ (by simp) (by simp) (by simp)
theorem MU(t:gT)(hl:t.kids.length<=200)(ih:∀e,e∈t.kids->gU Pg 130 [.agg e.enc] (.tup [.agg (lW e).1.enc,.one (.bool (lW e).2)])):
  gU Pg 130 [.agg t.enc] (.tup [.agg (lW t).1.enc,.one (.bool (lW t).2)]):=by
 refine zkQ (by simp) λo c hN hp=>?_;obtain⟨R,hR⟩:∃R,lW t=R:=⟨_,rfl⟩
 rw[hR];rw[zmN]at hR;unfold Ta;by_cases k1:0<=t.kind/\t.kind<=4
 ·rw[aB (by omega),aC k1]at hR;subst hR;have hc:t.kind=0\/t.kind=1\/t.kind=2\/t.kind=3\/t.kind=4:=by omega
  rcases hc with k|k|k|k|k<;>simp[k,vT]
 by_cases k2:5<=t.kind/\t.kind<=7;rotate_left
 ·rw[aB k2,aB k1]at hR;subst hR;have a0:¬t.kind=0:=by omega
  have a1:¬t.kind=1:=by omega
  have a2:¬t.kind=2:=by omega
  have a3:¬t.kind=3:=by omega
  have a4:¬t.kind=4:=by omega
  have a5:¬t.kind=5:=by omega
  have a6:¬t.kind=6:=by omega
  have a7:¬t.kind=7:=by omega
  simp[a0,a1,a2,a3,a4,a5,a6,a7,nJ]
 rw[aC k2]at hR;have hnl:=U9 t.kids;have hnm:=Ua t.kids;have hk:∀K:Int,t.kind=K->(if(kQ t.kids).2=true then nz K t.names (kQ t.kids).1 else(noT,false))=R:=λK e=>by rw[<-e];exact hR
 have a0:¬t.kind=0:=by omega
 have a1:¬t.kind=1:=by omega
 have a2:¬t.kind=2:=by omega
 have a3:¬t.kind=3:=by omega
 have a4:¬t.kind=4:=by omega
 have hc:t.kind=5\/t.kind=6\/t.kind=7:=by omega
 rcases hc with k|k|k
 ·have hR:=hk 5 k;simp[k];refine fU [.t 4] ?_;simp;refine Cg hp t hl ih (ms:=[0,1]) (by simp) (λhf T M n t2 t3 m0=>?_) (λhf T t4 t2 t1=>?_)
  ·rw[aB (by rw[hf];simp)]at hR;subst hR;simp[t2,t3,m0,nJ]
  ·rw[aC hf]at hR;generalize (kQ t.kids).1=l at*
   simp[t1,k];refine fT [1] ?_;have z:take l.length (List.map gT.enc l)=List.map gT.enc l:=aG (by simp);simp[iV,t4,t1,vR,z];refine gQ (MK _ _) ?_;rw[show yV t.names l=R by rw[<-hR];rfl];simp[iV,t2]
 ·have hR:=hk 6 k;simp[k];refine fU [.t 4] ?_;simp;refine Cg hp t hl ih (ms:=[0,1]) (by simp) (λhf T M n t2 t3 m0=>?_) (λhf T t4 t2 t1=>?_)
  ·rw[aB (by rw[hf];simp)]at hR;subst hR;simp[t2,t3,m0,nJ]
  ·rw[aC hf]at hR;generalize (kQ t.kids).1=l at*
   have hR:(gT.mk 6 (bs []) [] l,decide (l.length=2))=R:=by rw[<-hR];try rfl
   subst hR;have z:take l.length (List.map gT.enc l)=List.map gT.enc l:=aG (by simp);have hd:decide ((l.length:Int)=2)=decide (l.length=2):=by
    by_cases h:l.length=2
    ·simp[h]
    ·have h':¬(l.length:Int)=2:=by omega
     simp[h,h']
   simp[t1,k,t4,t2];exact⟨by rw[z,gT.enc_eq];rfl,by omega⟩
 ·have hR:=hk 7 k;simp[k];refine fU [.t 4] ?_;simp;refine Cg hp t hl ih (ms:=[0,1]) (by simp) (λhf T M n t2 t3 m0=>?_) (λhf T t4 t2 t1=>?_)
  ·rw[aB (by rw[hf];simp)]at hR;subst hR;simp[t2,t3,m0,nJ]
  ·rw[aC hf]at hR;have hu:=MN (kQ t.kids).1 (by omega) (by omega);generalize (kQ t.kids).1=l at*
   have z:take l.length (List.map gT.enc l)=List.map gT.enc l:=aG (by simp);simp[t1,k];refine fT [1] ?_;simp[iV,t4,t1,vR,z];refine gQ hu ?_;rw[show zJ l=R by rw[<-hR];rfl];simp[iV,t2]
mutual
theorem FH:∀t:gT,kr t->gU Pg 130 [.agg t.enc] (.tup [.agg (lW t).1.enc,.one (.bool (lW t).2)])
|.mk k n s l,h=>by
 rw[kr]at h;exact MU (.mk k n s l) h.1 (λe he=>FI l h.2 e he)
theorem FI:∀l:List gT,qY l->∀e,e∈l->gU Pg 130 [.agg e.enc] (.tup [.agg (lW e).1.enc,.one (.bool (lW e).2)])
|[],_,e,h=>by cases h
|d::l,hf,e,h=>by
 rw[qY]at hf;cases h with
 |head=>exact FH d hf.1
 |tail _ h=>exact FI l hf.2 e h
end
theorem AU(t:gT):gU Pg 76 [.agg t.enc] (.tup [.agg (mE t).1.enc,.one (.int .i64 (mE t).2)]):=by
 refine zkP (by simp) λo c hN hp=>?_;obtain⟨R,hR⟩:∃R,mE t=R:=⟨_,rfl⟩
 rw[hR];unfold mE at hR;unfold T9;simp;refine gQ (FD t) ?_;by_cases h1:16<nW 17 t
 ·rw[aC (.inl h1)]at hR;subst hR;simp[h1,nJ]
 simp[h1];refine gQ (ME t) ?_;by_cases h2:200<nN t 201
 ·rw[aC (.inr h2)]at hR;subst hR;simp[h2,nJ]
 rw[aB (by omega)]at hR;have hf:=FF t 201 (by omega) (by omega);simp[h2];refine gQ (FH t hf) ?_;by_cases h3:(lW t).2=true
 ·rw[aC h3]at hR;subst hR;simp[h3]
 ·rw[aB h3]at hR;subst hR;simp[h3,nJ]
theorem AX(t:gT):gU Pg 50 [.agg t.enc] (.one (.bool (iC t))):=by
 refine ziW (by simp) λo c hN hp=>?_;unfold Tp iC;simp;refine gQ (AU t) ?_;generalize mE t=R;simp;refine gQ (Dv _ _) ?_;by_cases h:R.2=0
 ·simp[h]
 ·simp[h]
mutual
theorem Ch:∀(a b:gT),kg a b=true↔a=b
|.mk k n s l,.mk k' n' s' l'=>by
 rw[kg,aF,aF,aF,aI,aI,aI,FJ,gT.mk.injEq];exact Iff.rfl
theorem FJ:∀(a b:List gT),qM a b=true↔a=b
|[],[]=>by simp[qM]
|[],_::_=>by simp[qM]
|_::_,[]=>by simp[qM]
|a::l,b::k=>by
 simp only[qM,aF,dZ];rw[Ch a b,FJ l k]
end
mutual
def jD:gT->Prop
|.mk k n s l=>n=bs []/\lL l/\((0<=k/\k<=4/\s=[]/\l=[])\/(k=5/\s.length=l.length/\s.length<=16/\∀x,x∈s->mY x=true)\/(k=6/\s=[]/\l.length=2)\/(k=7/\s=[]/\l.length<=6/\∀x,x∈l->1<=x.kind/\x.kind<=6))
def lL:List gT->Prop
|[]=>True
|t::l=>jD t/\lL l
end
theorem zQ:∀l:List gT,lL l↔∀x,x∈l->jD x
|[]=>by simp[lL]
|t::l=>by simp[lL,zQ l]
theorem ll(t:gT):jD t↔t.name=bs []/\(∀x,x∈t.kids->jD x)/\((0<=t.kind/\t.kind<=4/\t.names=[]/\t.kids=[])\/(t.kind=5/\t.names.length=t.kids.length/\t.names.length<=16/\∀x,x∈t.names->mY x=true)\/(t.kind=6/\t.names=[]/\t.kids.length=2)\/(t.kind=7/\t.names=[]/\t.kids.length<=6/\∀x,x∈t.kids->1<=x.kind/\x.kind<=6)):=by
 cases t;rw[jD,zQ];try rfl
theorem vU(k:Int)(h0:0<=k)(h4:k<=4):jD (bT k):=(ll _).2 ⟨rfl,λx h=>(by cases h),.inl ⟨h0,h4,rfl,rfl⟩⟩
theorem rA:jD noT:=vU 0 (by omega) (by omega)
theorem MV:∀(ss:List fE) (ts:List gT) (ns:List fE) (ks:List gT),ss.length=ts.length->ns.length=ks.length->(∀x,x∈ns->mY x=true)->(jw ss ts ns ks).2=true->
 (jw ss ts ns ks).1.1.length=(jw ss ts ns ks).1.2.length/\(jw ss ts ns ks).1.1.length=ns.length+ss.length/\(∀x,x∈(jw ss ts ns ks).1.1->mY x=true)/\∀x,x∈(jw ss ts ns ks).1.2->x∈ks\/x∈ts
|[],ts,ns,ks,h0,h1,h2,h=>by
 cases ts with
 |nil=>rw[jw];exact⟨h1,rfl,h2,λx hx=>.inl hx⟩;all_goals (intros;contradiction)
 |cons _ _=>simp at h0
|s::ss,[],ns,ks,h0,h1,h2,h=>by simp at h0
| s ::ss,t::ts,ns,ks,h0,h1,h2,h=>by
 have hp:=MH s ns;rw[jw]at h⊢;by_cases q:mY s=false\/ns[jU s ns]?=some s
 ·rw[aC q]at h;cases h
 rw[aB q]at h⊢;have hs:mY s=true:=by
  cases e:mY s with
  |true=>rfl
  |false=>exact absurd (.inl e) q
 have i:=MV ss ts (ns.take (jU s ns)++s::ns.drop (jU s ns)) (ks.take (jU s ns)++t::ks.drop (jU s ns)) (by simpa using h0) (by simp;omega) (λx hx=>by
  rcases aQ.1 hx with hx|hx
  ·exact h2 x (bY hx)
  ·rcases aN.1 hx with rfl|hx
   ·exact hs
   ·exact h2 x (dQ hx)) h
 refine⟨i.1,?_,i.2.2.1,λx hx=>?_⟩
 ·rw[i.2.1];simp;omega
 ·rcases i.2.2.2 x hx with hx|hx
  ·rcases aQ.1 hx with hx|hx
   ·exact .inl (bY hx)
   ·rcases aN.1 hx with rfl|hx
    ·exact .inr (by simp)
    ·exact .inl (dQ hx)
  ·exact .inr (by simp[hx])
theorem znH{l:List gT}(h:∀x,x∈l->jD x):∀y,y∈l.flatMap iX->jD y:=λy hy=>by
 obtain⟨x,hx,hy⟩:=eO.1 hy;unfold iX at hy;split at hy
 ·exact((ll x).1 (h x hx)).2.1 y hy
 ·simp at hy;subst hy;exact h y hx
theorem zmG{y:gT}(h:iH y∈([0,1,2,3,4,5]:List Int)):1<=y.kind/\y.kind<=6:=by
 unfold iH at h;split at h
 ·simp at h
 ·omega
theorem zn5(k:Int)(s:List fE)(l:List gT)(hl:∀x,x∈l->jD x)(hk:5<=k/\k<=7)(h:(nz k s l).2=true):jD (nz k s l).1:=by
 unfold nz at h⊢;by_cases k5:k=5
 ·rw[aC k5]at h⊢;unfold yV at h⊢;by_cases q:s.length≠l.length\/16<s.length
  ·rw[aC q]at h;cases h
  rw[aB q]at h⊢;have i:=MV s l [] [] (by omega) rfl (by simp) h;refine(ll _).2 ⟨rfl,λx hx=>?_,.inr (.inl ⟨rfl,i.1,?_,i.2.2.1⟩)⟩
  ·rcases i.2.2.2 x hx with hx|hx
   ·cases hx
   ·exact hl x hx
  ·show(jw s l [] []).1.1.length<=16;rw[i.2.1];simp;omega
 rw[aB k5]at h⊢;by_cases k6:k=6
 ·rw[aC k6]at h⊢;simp only[aI]at h;exact(ll _).2 ⟨rfl,hl,.inr (.inr (.inl ⟨rfl,rfl,h⟩))⟩
 rw[aB k6]at h⊢;unfold zJ at h⊢;have hm:=I6 (l.flatMap iX) [0,1,2,3,4,5] [];have hlen:=MS (l.flatMap iX) [0,1,2,3,4,5] [];simp only at h⊢;generalize qO (l.flatMap iX) [0,1,2,3,4,5] []=r at*
 have hw:∀y,y∈r.1->jD y/\1<=y.kind/\y.kind<=6:=λy hy=>by
  rcases hm y hy with q|⟨q1,q2⟩
  ·cases q
  ·exact⟨znH hl y q1,zmG q2⟩
 have seven:∀L:List gT,L.length<=6->(∀y,y∈L->jD y/\1<=y.kind/\y.kind<=6)->jD (.mk 7 (bs []) [] L):=λL hn hL=>(ll _).2 ⟨rfl,λx hx=>(hL x hx).1,.inr (.inr (.inr ⟨rfl,rfl,hn,λx hx=>(hL x hx).2⟩))⟩;by_cases q:r.2=true
 ·rw[aC q]at h⊢;split
  ·rename_i x e;exact(hw x (by rw[e];simp)).1
  ·exact seven _ (by simpa using hlen) hw
 ·rw[aB q]at h;cases h
mutual
theorem MW:∀t:gT,(lW t).2=true->jD (lW t).1
| .mk k n s l,h=>by
 rw[lW]at h⊢;by_cases q:5<=k/\k<=7
 ·rw[aC q]at h⊢;by_cases q2:(kQ l).2=true
  ·rw[aC q2]at h⊢;exact zn5 k s _ (Ub l q2) q h
  ·rw[aB q2]at h;cases h
 ·rw[aB q]at h⊢;by_cases q2:0<=k/\k<=4
  ·rw[aC q2];exact vU k q2.1 q2.2
  ·rw[aB q2]at h;cases h
theorem Ub:∀l:List gT,(kQ l).2=true->∀x,x∈(kQ l).1->jD x
|[],_,x,hx=>by rw[kQ]at hx;cases hx
| t::l,h,x,hx=>by
 rw[kQ]at h hx;by_cases q:(lW t).2=true
 ·rw[aC q]at h hx;rcases aN.1 hx with rfl|hx
  ·exact MW t q
  ·exact Ub l h x hx
 ·rw[aB q]at h;cases h
end
theorem FK(t:gT):jD (mE t).1:=by
 unfold mE;split
 ·exact rA
 split
 ·rename_i h;exact MW t h
 ·exact rA
theorem FL{t:gT}(h:(mE t).2=0):(lW t).2=true/\nN t 201<=200/\nW 17 t<=16/\(mE t).1=(lW t).1:=by
 unfold mE at h⊢;by_cases q:16<nW 17 t\/200<nN t 201
 ·rw[aC q]at h;cases h
 rw[aB q]at h⊢;by_cases q2:(lW t).2=true
 ·rw[aC q2];exact⟨q2,by omega,by omega,rfl⟩
 ·rw[aB q2]at h;cases h
theorem FM{t:gT}:iC t=true↔(mE t).2=0/\(mE t).1=t:=by
 unfold iC;rw[aF,aI,Ch]
theorem zR{t:gT}(h:iC t=true):jD t:=by
 have h:=FM.1 h;rw[<-h.2];exact FK t
theorem zGo{t:gT}(h:iC t=true):kr t/\nN t 201<=200:=by
 have h:=FL (FM.1 h).1;exact⟨FF t 201 (by omega) (by omega),h.2.1⟩
mutual
def jK:gT->Nat
|.mk _ _ _ l=>jF l+1
def jF:List gT->Nat
|[]=>0
|t::l=>jK t+jF l
end
mutual
theorem MZ:∀(t:gT) (m:Int),nN t m<m->nN t m=jK t
|.mk k n s l,m,h=>by
 rw[nN]at h⊢;have:=Uc l m 1 (by omega) h;rw[jK];omega
theorem Uc:∀(l:List gT) (m n:Int),1<=n->qA l m n<m->qA l m n=n+jF l
|[],m,n,h1,h=>by rw[qA,jF];omega
| t::l,m,n,h1,h=>by
 have hle:=IZ t (m-n);rw[qA]at h⊢;by_cases q:n<m
 ·rw[aC q]at h⊢;have hle2:=I1 l m (n+nN t (m-n)) (by omega);have i1:=Uc l m (n+nN t (m-n)) (by omega) h;have i2:=MZ t (m-n) (by omega);rw[jF];omega
 ·rw[aB q]at h;omega
end
theorem zHS(t:gT):1<=jK t:=by cases t;rw[jK];omega
theorem M3:∀{l:List gT} {x:gT},x∈l->jK x<=jF l
|t::l,x,h=>by
 rw[jF];rcases aN.1 h with rfl|h
 ·omega
 ·have:=M3 h;omega
theorem FN{t:gT}(h:iC t=true):jK t<=200:=by
 have h:=(zGo h).2;have:=MZ t 201 (by omega);omega
theorem M4{s:fE}(h:mY s=true):s.size<=32:=by
 unfold mY at h;split at h
 ·cases h
 ·simp at h;exact h.1
@[simp] theorem AY(l:List Nat):(bs l).size=l.length:=by
 show(bs l).data.size=_;simp[bs]
theorem Ud(k:Int)(n:fE)(s:List fE)(l:List gT)(br:Bool):sD (.mk k n s l) br=
 if k=0 then bs [97,110,121]else if k=1 then bs [110,117,108,108]else if k=2 then bs [98,111,111,108]else if k=3 then bs [105,110,116]else if k=4 then bs [115,116,114]
 else if k=5 then bs [123]++xq s l (bs []) 0++bs [125]
 else if k=6 then(match l with
  |a::b::_=>if br=true then bs [40]++(sD a true++bs [32,45,62,32]++sD b false)++bs [41]else sD a true++bs [32,45,62,32]++sD b false
  |_=>bs [])
 else zK l (bs []) 0:=by rw[sD.eq_def];try rfl
mutual
theorem AZ:∀(t:gT) (br:Bool),jD t->(sD t br).size+60<=100*jK t
| .mk k n s l,br,h=>by
 have hw:=h;rw[jD,zQ]at h;obtain⟨_,hl,hc⟩:=h;have hl':=(zQ l).2 hl;rw[Ud,jK];split
 ·simp;omega
 split
 ·simp;omega
 split
 ·simp;omega
 split
 ·simp;omega
 split
 ·simp;omega
 split
 ·rename_i k5;subst k5;have hc:s.length=l.length/\s.length<=16/\∀x,x∈s->mY x=true:=by
   rcases hc with⟨_,q,_⟩|⟨_,q⟩|⟨q,_⟩|⟨q,_⟩
   ·omega
   ·exact q
   ·omega
   ·omega
  have:=M5 s l (bs []) 0 hl' hc.2.2;simp at this⊢;omega
 split
 ·rename_i k6;subst k6;have hc:l.length=2:=by
   rcases hc with⟨_,q,_⟩|⟨q,_⟩|⟨_,_,q⟩|⟨q,_⟩
   ·omega
   ·omega
   ·exact q
   ·omega
  match l,hc,hl' with
  |[a,b],_,hl'=>
   rw[lL,lL]at hl';have ha:=AZ a true hl'.1;have hb:=AZ b false hl'.2.1;simp only[jF];split
   ·simp;omega
   ·simp;omega
 ·have:=Ue l (bs []) 0 hl';simp at this;omega
theorem M5:∀(s:List fE) (l:List gT) (out:fE) (i:Nat),lL l->(∀x,x∈s->mY x=true)->(xq s l out i).size<=out.size+100*jF l
|[],l,out,i,h,hn=>by rw[xq];omega;all_goals (intros;contradiction)
|_::_,[],out,i,h,hn=>by rw[xq];omega;all_goals (intros;contradiction)
|s::ss,t::ts,out,i,h,hn=>by
 rw[lL]at h;have h1:=AZ t false h.1;have h3:=M4 (hn s (by simp));rw[xq,jF];have h2:=M5 ss ts ((if 0<i then out++bs [44,32]else out)++s++bs [58,32]++sD t false) (i+1) h.2 (λx hx=>hn x (by simp[hx]));refine ak h2 ?_;split<;>simp<;>omega
theorem Ue:∀(l:List gT) (out:fE) (i:Nat),lL l->(zK l out i).size<=out.size+100*jF l
|[],out,i,h=>by rw[zK];omega
|t::ts,out,i,h=>by
 rw[lL]at h;have h1:=AZ t true h.1;rw[zK,jF];have h2:=Ue ts ((if 0<i then out++bs [32,124,32]else out)++sD t true) (i+1) h.2;refine ak h2 ?_;split<;>simp<;>omega
end
abbrev Ci(e:gT):Prop:=∀br:Bool,gU Pg 94 [.agg e.enc,.one (.bool br)] (.one (.str (sD e br)))
theorem zGg{c:Ctx}(hp:c.pure)(t:gT)(hw:lL t.kids)(hn:t.names.length=t.kids.length)(hnm:∀x,x∈t.names->mY x=true)(hc:jF t.kids<=1000)(hl:t.names.length<=1000)(ih:∀e,e∈t.kids->Ci e)(R:fE)(hR:xq t.names t.kids (bs []) 0=R){Q:Exit->St->Prop}{S:St}{g}{ms:List Nat}
  (h0:iM ms S [(6,.c (.d (.int .i64 0))),(5,.c (.d (.str (bs [])))),(2,.c (.d (.rp t.enc 0)))] [])
  (hQ:∀T M n,Abs.look T 5=.c (.d (.str R))->Q (.exit 1) ⟨T,M,n⟩):mW Pg c Lm Q g S:=by
 refine fO gy hp (λx:Nat × fE=>x.1<=t.names.length/\x.2.size+100*jF (t.kids.drop x.1)<=100*jF t.kids/\xq (t.names.drop x.1) (t.kids.drop x.1) x.2 x.1=R) (λx=>[(6,.c (.d (.int .i64 x.1))),(5,.c (.d (.str x.2))),(2,.c (.d (.rp t.enc 0)))]) (λ_=>[]) (λx=>t.names.length-x.1) (0,bs []) ms ⟨by simp,by simp,by simpa using hR⟩ h0 λ⟨j,out⟩ ⟨h1,h2,h3⟩=>?_;unfold Lm;simp only at h1 h2 h3;simp;apply gM<;>intro h
 ·have hj:j<t.names.length:=by simpa using h
  have hj2:j<t.kids.length:=by omega
  rw[aD hj,aD hj2,xq]at h3;rw[aD hj2,jF]at h2;have hnx:=M4 (hnm _ (aR hj));have hsx:=AZ t.kids[j] false ((zQ _).1 hw _ (aR hj2));have hix:=ih _ (aR hj2) false;by_cases h0:j=0
  ·subst h0;simp only[Nat.lt_irrefl,if_false]at h3;simp[hj,hj2,zah];refine⟨by omega,by omega,?_⟩;refine gQ hix ?_;simp[zah];refine⟨by omega,by decide,?_⟩;refine fF (0+1,_) [] ⟨by simp only;omega,?_,h3⟩ (by simp only;omega) ?_
   ·simp only[ax,AY,length_cons,length_nil];omega
   ·simp;decide
  ·have h0':(0:Int)<j:=by omega
   have h0'':0<j:=by omega
   rw[aC h0'']at h3;simp[h0',h0'',hj,hj2,zah];refine⟨by omega,by omega,by omega,?_⟩;refine gQ hix ?_;simp[zah];refine⟨by omega,by decide,?_⟩;refine fF (j+1,_) [] ⟨by simp only;omega,?_,h3⟩ (by simp only;omega) ?_
   ·simp;omega
   ·simp;exact wI
 ·have hj:j=t.names.length:=by simp at h;omega
  subst hj;rw[aO,xq]at h3
  ·subst h3;exact hQ _ _ _ (by simp)
  ·intros;contradiction
theorem zGh{c:Ctx}(hp:c.pure)(t:gT)(hw:lL t.kids)(hc:jF t.kids<=1000)(hl:t.kids.length<=1000)(ih:∀e,e∈t.kids->Ci e)(R:fE)(hR:zK t.kids (bs []) 0=R){Q:Exit->St->Prop}{S:St}{g}{ms:List Nat}
  (h0:iM ms S [(7,.c (.d (.int .i64 0))),(5,.c (.d (.str (bs [])))),(2,.c (.d (.rp t.enc 0)))] [])
  (hQ:∀T M n,Abs.look T 5=.c (.d (.str R))->Q (.exit 3) ⟨T,M,n⟩):mW Pg c Lp Q g S:=by
 refine fO gy hp (λx:Nat × fE=>x.1<=t.kids.length/\x.2.size+100*jF (t.kids.drop x.1)<=100*jF t.kids/\zK (t.kids.drop x.1) x.2 x.1=R) (λx=>[(7,.c (.d (.int .i64 x.1))),(5,.c (.d (.str x.2))),(2,.c (.d (.rp t.enc 0)))]) (λ_=>[]) (λx=>t.kids.length-x.1) (0,bs []) ms ⟨by simp,by simp,by simpa using hR⟩ h0 λ⟨j,out⟩ ⟨h1,h2,h3⟩=>?_;unfold Lp;simp only at h1 h2 h3;simp;apply gM<;>intro h
 ·have hj2:j<t.kids.length:=by simpa using h
  rw[aD hj2,zK]at h3;rw[aD hj2,jF]at h2;have hsx:=AZ t.kids[j] true ((zQ _).1 hw _ (aR hj2));have hix:=ih _ (aR hj2) true;by_cases h0:j=0
  ·subst h0;simp only[Nat.lt_irrefl,if_false]at h3;simp[hj2,zah];refine gQ hix ?_;simp[zah];refine⟨by omega,?_⟩;refine fF (0+1,_) [] ⟨by simp only;omega,?_,h3⟩ (by simp only;omega) ?_
   ·simp only[ax,AY,length_cons,length_nil];omega
   ·simp;decide
  ·have h0':(0:Int)<j:=by omega
   have h0'':0<j:=by omega
   rw[aC h0'']at h3;simp[h0',h0'',hj2,zah];refine⟨by omega,?_⟩;refine gQ hix ?_;simp[zah];refine⟨by omega,?_⟩;refine fF (j+1,_) [] ⟨by simp only;omega,?_,h3⟩ (by simp only;omega) ?_
   ·simp;omega
   ·simp;exact wI
 ·have hj:j=t.kids.length:=by simp at h;omega
  subst hj;rw[aO,zK]at h3;subst h3;exact hQ _ _ _ (by simp)
theorem zGi(t:gT)(hw:jD t)(hc:jK t<=1000)(ih:∀e,e∈t.kids->Ci e):Ci t:=by
 intro br;refine zDm (by simp) λo c hN hp=>?_;obtain⟨R,hR⟩:∃R,sD t br=R:=⟨_,rfl⟩
 rw[hR];have hwf:=(ll t).1 hw;have hws:=(zQ t.kids).2 hwf.2.1;have hcs:jK t=jF t.kids+1:=by cases t;rw[jK];try rfl
 have hd:=Ud t.kind t.name t.names t.kids br;rw[show gT.mk t.kind t.name t.names t.kids=t by cases t;rfl,hR]at hd;have hll:∀l:List gT,l.length<=jF l:=by
  intro l
  induction l with
  |nil=>simp
  |cons x l ih=>have:=zHS x;simp[jF];omega
 have hkl:=hll t.kids;unfold Tn;by_cases k0:t.kind=0
 ·simp[k0]at hd;simp[k0,hd]
 by_cases k1:t.kind=1
 ·simp[k1]at hd;simp[k1,hd]
 by_cases k2:t.kind=2
 ·simp[k2]at hd;simp[k2,hd]
 by_cases k3:t.kind=3
 ·simp[k3]at hd;simp[k3,hd]
 by_cases k4:t.kind=4
 ·simp[k4]at hd;simp[k4,hd]
 by_cases k5:t.kind=5
 ·simp[k5]at hd;have hn:t.names.length=t.kids.length/\t.names.length<=16/\∀x,x∈t.names->mY x=true:=by
   rcases hwf.2.2 with⟨_,q,_⟩|⟨_,q⟩|⟨q,_⟩|⟨q,_⟩
   ·omega
   ·exact q
   ·omega
   ·omega
  have hfs:=M5 t.names t.kids (bs []) 0 hws hn.2.2;simp only[AY,length_nil,Nat.zero_add]at hfs;simp[k5];refine zGg hp t hws hn.1 hn.2.2 (by omega) (by omega) ih _ rfl (ms:=[]) (by simp) λT M n t5=>?_;generalize xq t.names t.kids (bs []) 0=f at*
  simp[t5,zah];refine⟨by omega,by omega,?_⟩;rw[hd]
 by_cases k6:t.kind=6
 ·have hn:t.kids.length=2:=by
   rcases hwf.2.2 with⟨_,q,_⟩|⟨q,_⟩|⟨_,_,q⟩|⟨q,_⟩
   ·omega
   ·omega
   ·exact q
   ·omega
  obtain⟨a,b,hab⟩:∃a b,t.kids=[a,b]:=by
   match t.kids,hn with
   |[a,b],_=>exact⟨a,b,rfl⟩
  have hia:=ih a (by rw[hab];simp) true;have hib:=ih b (by rw[hab];simp) false;have hsa:=AZ a true (hwf.2.1 a (by rw[hab];simp));have hsb:=AZ b false (hwf.2.1 b (by rw[hab];simp));rw[hab]at hcs hd;simp only[jF]at hcs;simp[k6]at hd;simp[k6,hab,zah];refine gQ hia ?_;simp[hab,zah];refine⟨by omega,?_⟩;refine gQ hib ?_;generalize sD a true=sa at*
  generalize sD b false=sb at*
  simp[zah];refine⟨by omega,by decide,?_⟩;cases br with
  |true=>
   simp at hd;simp[zah];refine⟨by omega,by omega,?_⟩;rw[hd]
  |false=>
   simp at hd;simp[hd]
 ·simp[k0,k1,k2,k3,k4,k5,k6]at hd;simp[k0,k1,k2,k3,k4,k5,k6];refine zGh hp t hws (by omega) (by omega) ih R hd.symm (ms:=[]) (by simp) λT M n t5=>?_;simp[t5]
mutual
theorem Uf:∀t:gT,jD t->jK t<=1000->Ci t
|.mk k n s l,hw,hc=>by
 have hws:=hw;rw[jD]at hws;rw[jK]at hc;exact zGi (.mk k n s l) hw (by rw[jK];omega) (λe he=>Ug l hws.2.1 (by omega) e he)
theorem Ug:∀l:List gT,lL l->jF l<=1000->∀e,e∈l->Ci e
|[],_,_,e,h=>by cases h
|d::l,hw,hc,e,h=>by
 rw[lL]at hw;rw[jF]at hc;cases h with
 |head=>exact Uf d hw.1 (by omega)
 |tail _ h=>exact Ug l hw.2 (by omega) e h
end
theorem I7(t:gT):gU Pg 60 [.agg t.enc] (.one (.str (xu t))):=by
 refine zDl (by simp) λo c hN hp=>?_;obtain⟨R,hR⟩:∃R,xu t=R:=⟨_,rfl⟩
 rw[hR];unfold xu at hR;have hi:iC t=(decide ((mE t).2=0)&&kg (mE t).1 t):=rfl;have hsh:iC t=true->Ci t:=λh=>Uf t (zR h) (by have:=FN h;omega);unfold Tk;simp;refine gQ (AU t) ?_;generalize mE t=N at*
 simp;refine gQ (Dv _ _) ?_;by_cases h:N.2=0
 ·by_cases h2:kg N.1 t=true
  ·have hx:iC t=true:=by rw[hi];simp[h,h2]
   rw[aC hx]at hR;simp[h,h2];refine gQ (hsh hx false) ?_;simp[hR]
  ·have hx:¬iC t=true:=by rw[hi];simp[h,h2]
   rw[aB hx]at hR;subst hR;simp[h,h2]
 ·have hx:¬iC t=true:=by rw[hi];simp[h]
  rw[aB hx]at hR;subst hR;simp[h]
end Go.Gr
