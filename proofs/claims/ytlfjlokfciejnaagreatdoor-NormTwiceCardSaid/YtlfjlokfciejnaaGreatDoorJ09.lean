/- Texts of ours, joined and written short by a program of ours. -/
import Derived.Test.YtlfjlokfciejnaaGreatDoorJ08
import Derived.Test.YtlfjlokfciejnaaGreatDoorJ06
set_option maxRecDepth 20000
set_option maxHeartbeats 4000000
set_option linter.all false
namespace Go.Gr
open Go.Abs Go.Proofs
inductive Cor where
  |mk (kind n:Int) (text:fC) (ints:List Int) (names:List fC) (types:List Typ) (cos:List Coe) (kids:List Cor)
mutual
def Cor.enc:Cor->List D
  |.mk k n t is ns ts cs ks=>[.int .i64 k,.int .i64 n,.str t,.sl false 1 (encI is),.sl false 1 (encS ns),.sl false 4 (ts.map Typ.enc),.sl false 5 (cs.map Coe.enc),.sl false 8 (Cor.encs ks)]
def Cor.encs:List Cor->List (List D)
  |[]=>[]
  |c::l=>Cor.enc c::Cor.encs l
end
def Cor.encs_map(l:List Cor):Cor.encs l=l.map Cor.enc:=by
  induction l with
  |nil=>rfl
  |cons n l ih=>simp[Cor.encs,ih]
def Cor.kind:Cor->Int|.mk k _ _ _ _ _ _ _=>k
def Cor.n:Cor->Int|.mk _ n _ _ _ _ _ _=>n
def Cor.text:Cor->fC|.mk _ _ t _ _ _ _ _=>t
def Cor.ints:Cor->List Int|.mk _ _ _ i _ _ _ _=>i
def Cor.names:Cor->List fC|.mk _ _ _ _ n _ _ _=>n
def Cor.types:Cor->List Typ|.mk _ _ _ _ _ t _ _=>t
def Cor.cos:Cor->List Coe|.mk _ _ _ _ _ _ c _=>c
def Cor.kids:Cor->List Cor|.mk _ _ _ _ _ _ _ l=>l
def Cor.enc_eq(t:Cor):t.enc=[.int .i64 t.kind,.int .i64 t.n,.str t.text,.sl false 1 (encI t.ints),.sl false 1 (encS t.names),.sl false 4 (t.types.map Typ.enc),.sl false 5 (t.cos.map Coe.enc),.sl false 8 (t.kids.map Cor.enc)]:=by
  cases t;simp[Cor.enc,Cor.encs_map,Cor.kind,Cor.text,Cor.n,Cor.ints,Cor.cos,Cor.types,Cor.names,Cor.kids]
@[simp] theorem Cor.enc_length(t:Cor):t.enc.length=8:=by rw[t.enc_eq];try rfl
structure Fun where
  name:fC
  type:Typ
  body:Cor
def Fun.enc(f:Fun):List D:=.str f.name::(f.type.enc++f.body.enc)
structure Site where
  module:Int
  line:Int
  col:Int
def Site.enc(s:Site):List D:=[.int .i64 s.module,.int .i64 s.line,.int .i64 s.col]
structure Prg where
  funs:List Fun
  main:Int
  sites:List Site
def Prg.enc(p:Prg):List D:=[.sl false 13 (p.funs.map Fun.enc),.int .i64 p.main,.sl false 3 (p.sites.map Site.enc)]
def zfl:Prg:=⟨[],0,[]⟩
structure CS where
  tab:List Ist
  funs:List Fun
  main:Int
  sites:List Site
  bad:List Dia
  module:Int
  vars:List fC
  wth:List Typ
  e:Int
  line:Int
  col:Int
abbrev Env:=List (fC × Typ)
abbrev Inf:=Env->CS->(Cor × Typ) × CS
def cK(k:Int)(l:List Cor):Cor:=.mk k 0 (bs []) [] [] [] [] l
def cN(k n:Int):Cor:=.mk k n (bs []) [] [] [] [] []
def cT(k:Int)(t:fC)(l:List Cor):Cor:=.mk k 0 t [] [] [] [] l
def noC:Cor:=cN 0 0
def fnT(a b:Typ):Typ:=.mk 6 (bs []) [] [a,b]
def zaW(ln cl e:Int)(s:CS):CS:=if s.e=0 then {s with e:=e,line:=ln,col:=cl}else s
def zar(t:Typ)(ln cl:Int)(s:CS):Typ × CS:=
  let r:=zba t s.vars s.wth
  (r.1,if r.2≠0 then zaW ln cl 9 s else s)
def zbN(t:Typ)(ln cl:Int)(s:CS):Typ × CS:=((za7 t).1,if(za7 t).2≠0 then zaW ln cl 9 s else s)
def za8(x:Cor)(t u:Typ)(ln cl:Int)(s:CS):Cor × CS:=
  if s.e≠0 then(x,s)else(.mk 21 s.sites.length (bs []) [] [] [t,u] [] [x],{s with sites:=s.sites++[⟨s.module,ln,cl⟩]})
def zaF(x:Cor)(t u:Typ)(ln cl:Int)(s:CS):Cor × CS:=
  if s.e≠0 then(x,s)else if SubR t u=true then(x,s)else if zhR t u=true then za8 x t u ln cl s else(x,zaW ln cl 15 s)
section
variable (L:Lnk)
def zdV(m k:Int):Dec:=(L.mods.getD m.toNat noM).decs.getD k.toNat zjs
def sigR(e:Ent)(l:List Typ):Typ × Bool:=
  let d:=zdV L e.module e.decl
  let a:=zba (d.types.getD 0 noT) (d.vars.map (·.1)) l
  let b:=zba (d.types.getD 1 noT) (d.vars.map (·.1)) l
  let t:=za7 (fnT a.1 b.1)
  (t.1,decide (a.2=0)&&(decide (b.2=0)&&decide (t.2=0)))
def zbO (ln cl:Int) (e:Ent) (l:List Typ) (s:CS):(Cor × Typ) × CS:=
  if(sigR L e l).2=false then((noC,noT),zaW ln cl 9 s)else
    let r:=addR 256 s.tab ⟨e.module,e.decl,l⟩
    ((cN 6 r.1.1,(sigR L e l).1),if r.1.2≠0 then zaW ln cl r.1.2 {s with tab:=r.2}else {s with tab:=r.2})
def zcn(env:Env)(x:fC):Int:=match fi (fun b:fC × Typ=>decide (b.1=x)) 0 env.reverse with
  |i=>if i<0 then -1 else env.length-1-i
def zcM(ln cl:Int):List Typ->List Typ->CS->List Typ × CS
  |[],l,s=>(l,s)
  |t::ts,l,s=>if s.e≠0 then(l,s)else zcM ln cl ts (l++[(zar t ln cl s).1]) (zar t ln cl s).2
def zdO (n:Nod) (env:Env) (s:CS):(Cor × Typ) × CS:=
  let k:=zcn env n.text
  let e:=zcf (L.scopes.getD s.module.toNat []) n.text
  if 0<=k/\n.kind=4 then((cN 4 k,(env.getD k.toNat (bs [],noT)).2),s)
  else if k<0/\e.2=false then((noC,noT),zaW n.line n.col 10 s)
  else if 0<=k then((noC,noT),zaW n.line n.col 18 s)
  else
    let d:=zdV L e.1.module e.1.decl
    if decide (0<d.vars.length)≠decide (n.kind=19)then((noC,noT),zaW n.line n.col 18 s)
    else if n.kind=4 then zbO L n.line n.col e.1 [] s
    else
      let r:=zcM n.line n.col n.types [] s
      if r.2.e≠0 then((noC,noT),r.2)
      else if znL d.vars r.1≠0 then((noC,noT),zaW n.line n.col (znL d.vars r.1) r.2)
      else zbO L n.line n.col e.1 r.1 r.2
end
def letC (n a:Nod) (ia ib:Inf) (env:Env) (s:CS):(Cor × Typ) × CS:=
  let x:=ia env s
  let y:=if 0<n.types.length/\x.2.e=0 then
      (let u:=zar (n.types.getD 0 noT) n.line n.col x.2
       let z:=zaF x.1.1 x.1.2 u.1 a.line a.col u.2
       ((z.1,u.1),z.2))
    else x
  let z:=ib (env++[(n.text,y.1.2)]) y.2
  ((cK 18 [y.1.1,z.1.1],z.1.2),z.2)
def fnC(n a:Nod)(ia:Inf)(env:Env)(s:CS):(Cor × Typ) × CS:=
  let p:=zar (n.types.getD 0 noT) n.line n.col s
  let q:=if 1<n.types.length/\p.2.e=0 then zar (n.types.getD 1 noT) n.line n.col p.2 else(noT,p.2)
  let x:=ia (env++[(n.text,p.1)]) q.2
  let y:=if 1<n.types.length then(let z:=zaF x.1.1 x.1.2 q.1 a.line a.col x.2;((z.1,q.1),z.2))else x
  let u:=zbN (fnT p.1 y.1.2) n.line n.col y.2
  ((cK 5 [y.1.1],u.1),u.2)
def anyC(u:Typ)(ln cl:Int)(x:(Cor × Typ) × CS):(Cor × Typ) × CS:=
  if x.1.2.kind=0 then(((za8 x.1.1 x.1.2 u ln cl x.2).1,u),(za8 x.1.1 x.1.2 u ln cl x.2).2)else x
def zeP (n b:Nod) (ia ib:Inf) (env:Env) (s:CS):(Cor × Typ) × CS:=
  let x:=anyC (fnT noT noT) n.line n.col (ia env s)
  if x.1.2.kind≠6 then((noC,noT),zaW n.line n.col 16 x.2)else
    let y:=ib env x.2
    let z:=zaF y.1.1 y.1.2 (kid0 x.1.2) b.line b.col y.2
    ((cK 7 [x.1.1,z.1],kid1 x.1.2),z.2)
def dupS:List fC->List fC->Bool
  |_,[]=>false
  |had,n::l=>had.any (fun m=>decide (m=n))||dupS (had++[n]) l
def recC(n:Nod)(ks:Env->CS->(List Cor × List Typ) × CS)(env:Env)(s:CS):(Cor × Typ) × CS:=
  let s1:=if dupS [] n.names=true then zaW n.line n.col 8 s else s
  let r:=ks env s1
  let u:=zbN (.mk 5 (bs []) n.names r.1.2) n.line n.col r.2
  ((.mk 8 0 (bs []) [] n.names [] [] r.1.1,u.1),u.2)
def selC(n:Nod)(ia:Inf)(env:Env)(s:CS):(Cor × Typ) × CS:=
  let x:=ia env s
  let f:=zaD x.1.2 n.text
  let y:=if x.1.2.kind=0 then za8 x.1.1 x.1.2 (.mk 5 (bs []) [n.text] [noT]) n.line n.col x.2 else(x.1.1,x.2)
  ((cT 9 n.text [y.1],f.1),if f.2=true\/x.1.2.kind=0 then y.2 else zaW n.line n.col 17 y.2)
def zcy(x:fC):List fC->List Typ->List (fC × Typ)
  |n::ns,k::ks=>if n=x then zcy x ns ks else(n,k)::zcy x ns ks
  |_,_=>[]
def zeQ (n:Nod) (ia ib:Inf) (env:Env) (s:CS):(Cor × Typ) × CS:=
  let x:=anyC (bT 5) n.line n.col (ia env s)
  if x.1.2.kind≠5 then((noC,noT),zaW n.line n.col 17 x.2)else
    let y:=ib env x.2
    let r:=(n.text,y.1.2)::zcy n.text x.1.2.names x.1.2.kids
    let u:=zbN (.mk 5 (bs []) (r.map (·.1)) (r.map (·.2))) n.line n.col y.2
    ((cT 10 n.text [x.1.1,y.1.1],u.1),u.2)
def za1 (q:Nod) (env:Env):Env × Env:=
  if q.kind=12/\(q.kids.getD 0 noN).kind=4/\0<=zcn env (q.kids.getD 0 noN).text then
    let k:=(zcn env (q.kids.getD 0 noN).text).toNat
    let b:=env.getD k (bs [],noT)
    (env.set k (b.1,(zcs b.2 q.n).1),env.set k (b.1,(zcs b.2 q.n).2))
  else(env,env)
def ifC(q a b:Nod)(iq ia ib:Inf)(env:Env)(s:CS):(Cor × Typ) × CS:=
  let x:=iq env s
  let x':=zaF x.1.1 x.1.2 (bT 2) q.line q.col x.2
  let y:=ia (za1 q env).1 x'.2
  let z:=ib (za1 q env).2 y.2
  let j:=zgc y.1.2 z.1.2
  let y':=zaF y.1.1 y.1.2 j a.line a.col z.2
  let z':=zaF z.1.1 z.1.2 j b.line b.col y'.2
  ((cK 11 [x'.1,y'.1,z'.1],j),z'.2)
def asC (n:Nod) (ia:Inf) (env:Env) (s:CS):(Cor × Typ) × CS:=
  let x:=ia env s
  if x.2.e≠0 then x else
    let u:=zar (n.types.getD 0 noT) n.line n.col x.2
    if u.2.e≠0\/SubR x.1.2 u.1=true then((x.1.1,u.1),u.2)else
      let y:=if x.1.2.kind≠0 then za8 x.1.1 x.1.2 noT n.line n.col u.2 else(x.1.1,u.2)
      if u.1.kind=0 then((y.1,u.1),y.2)
      else if x.1.2.kind=0 then(((za8 y.1 x.1.2 u.1 n.line n.col y.2).1,u.1),(za8 y.1 x.1.2 u.1 n.line n.col y.2).2)
      else((.mk 21 y.1.n (bs []) [] [] [noT,u.1] [] [y.1],u.1),y.2)
def zbl(n:Nod)(i:Inf)(t:Typ)(env:Env)(s:CS):Cor × CS:=
  let x:=i env s
  zaF x.1.1 x.1.2 t n.line n.col x.2
def zc4:List fC:=[bs [43],bs [45],bs [42],bs [47],bs [37],bs [60,60],bs [62,62],bs [38],bs [94],bs [60],bs [60,61]]
def opZ(s:fC):Int:=max 0 (fi (fun x=>decide (x=s)) 0 zc4)
def opC (n a b:Nod) (ia ib:Inf) (env:Env) (s:CS):(Cor × Typ) × CS:=
  if n.text=bs [111,114]then
    let x:=zbl a ia (bT 2) env s
    let y:=zbl b ib (bT 2) env x.2
    ((cK 11 [x.1,cN 2 1,y.1],bT 2),y.2)
  else if n.text=bs [97,110,100]then
    let x:=zbl a ia (bT 2) env s
    let y:=zbl b ib (bT 2) env x.2
    ((cK 11 [x.1,y.1,cN 2 0],bT 2),y.2)
  else if n.text=bs [61,61]then
    let x:=ia env s
    let y:=ib env x.2
    ((cK 14 [x.1.1,y.1.1],bT 2),y.2)
  else if n.text=bs [43,43]then
    let x:=zbl a ia (bT 4) env s
    let y:=zbl b ib (bT 4) env x.2
    ((cK 15 [x.1,y.1],bT 4),y.2)
  else
    let x:=zbl a ia (bT 3) env s
    let y:=zbl b ib (bT 3) env x.2
    ((.mk 13 (opZ n.text) (bs []) [] [] [] [] [x.1,y.1],if 9<=opZ n.text then bT 2 else bT 3),y.2)
def oneC(n a:Nod)(ia:Inf)(env:Env)(s:CS):(Cor × Typ) × CS:=
  if n.kind=15 then((cK 16 [(zbl a ia (bT 2) env s).1],bT 2),(zbl a ia (bT 2) env s).2)
  else if n.kind=16 then((cK 17 [(zbl a ia (bT 3) env s).1],bT 3),(zbl a ia (bT 3) env s).2)
  else if n.kind=12 then((.mk 12 n.n (bs []) [] [] [] [] [(ia env s).1.1],bT 2),(ia env s).2)
  else((cK 19 [(ia env s).1.1],bT 1),(ia env s).2)
mutual
def zan (L:Lnk):Nod->Inf
  | .mk k tx nn ln cl ts ns ks=>fun env s=>
    if s.e≠0 then((noC,noT),s)
    else if k=0 then((cN 0 nn,bT 3),s)
    else if k=1 then((cT 1 tx [],bT 4),s)
    else if k=2 then((cN 2 nn,bT 2),s)
    else if k=3 then((cN 3 0,bT 1),s)
    else if k=18 then((cN 20 0,bT 3),s)
    else if k=4\/k=19 then zdO L (.mk k tx nn ln cl ts ns ks) env s
    else if k=8 then recC (.mk k tx nn ln cl ts ns ks) (za0 L ks) env s
    else match ks with
      |[]=>((noC,noT),s)
      | a::[]=>
        if k=6 then fnC (.mk k tx nn ln cl ts ns ks) a (zan L a) env s
        else if k=9 then selC (.mk k tx nn ln cl ts ns ks) (zan L a) env s
        else if k=13 then asC (.mk k tx nn ln cl ts ns ks) (zan L a) env s
        else oneC (.mk k tx nn ln cl ts ns ks) a (zan L a) env s
      | a::b::[]=>
        if k=5 then letC (.mk k tx nn ln cl ts ns ks) a (zan L a) (zan L b) env s
        else if k=7 then zeP (.mk k tx nn ln cl ts ns ks) b (zan L a) (zan L b) env s
        else if k=10 then zeQ (.mk k tx nn ln cl ts ns ks) (zan L a) (zan L b) env s
        else opC (.mk k tx nn ln cl ts ns ks) a b (zan L a) (zan L b) env s
      |a::b::c::_=>ifC a b c (zan L a) (zan L b) (zan L c) env s
def za0 (L:Lnk):List Nod->Env->CS->(List Cor × List Typ) × CS
  |[]=>fun env s=>(([],[]),s)
  | n::l=>fun env s=>
    let x:=zan L n env s
    let r:=za0 L l env x.2
    ((x.1.1::r.1.1,x.1.2::r.1.2),r.2)
end
def zdp:List Typ->Nat->fC->fC
  |[],_,s=>s
  |t::l,i,s=>zdp l (i+1) (s++(if i=0 then bs [91]else bs [44,32])++zfj t)
def funC(L:Lnk)(x:Ist)(s0:CS):CS:=
  let d:=zdV L x.module x.decl
  let s:CS:={s0 with module:=x.module,vars:=d.vars.map (·.1),wth:=x.types,e:=0}
  let a:=zar (d.types.getD 0 noT) d.line d.col s
  let b:=zar (d.types.getD 1 noT) d.line d.col a.2
  let t:Typ × CS:=if b.2.e=0 then zbN (fnT a.1 b.1) d.line d.col b.2 else(fnT a.1 b.1,b.2)
  let s2:CS:=if x.module=L.main.module/\x.decl=L.main.decl/\zhR (bT 1) a.1=false then zaW d.line d.col 14 t.2 else t.2
  let y:=zan L d.body [(d.param,a.1)] s2
  let z:=zaF y.1.1 y.1.2 b.1 d.body.line d.body.col y.2
  let nm:=zdp x.types 0 (L.names.getD x.module.toNat (bs [])++bs [46]++d.name)
  let nm:=if 0<x.types.length then nm++bs [93]else nm
  let s3:CS:={z.2 with funs:=z.2.funs++[⟨nm,t.1,z.1⟩]}
  if s3.e≠0 then {s3 with bad:=s3.bad++[⟨x.module,s3.line,s3.col,s3.e⟩]}else s3
def zdF (L:Lnk) (i:Nat):List Dec->Nat->CS->CS × List Dia
  |[],_,s=>(s,[])
  | d ::l,k,s=>
    if 0<d.vars.length then zdF L i l (k+1) s else
      let r:=addR 256 s.tab ⟨i,k,[]⟩
      if r.1.2≠0 then({s with tab:=r.2},[⟨i,d.line,d.col,r.1.2⟩])
      else zdF L i l (k+1) {s with tab:=r.2,main:=if(i:Int)=L.main.module/\(k:Int)=L.main.decl then r.1.1 else s.main}
def zcz(L:Lnk):List Mdl->Nat->CS->CS × List Dia
  |[],_,s=>(s,[])
  |m::l,i,s=>if 0<(zdF L i m.decs 0 s).2.length then zdF L i m.decs 0 s else zcz L l (i+1) (zdF L i m.decs 0 s).1
def zbI(L:Lnk):Nat->Nat->CS->CS
  |0,_,s=>s
  |n+1,i,s=>if i<s.tab.length then zbI L n (i+1) (funC L (s.tab.getD i ⟨0,0,[]⟩) s)else s
def cs0:CS:=⟨[],[],0,[],[],0,[],[],0,0,0⟩
def zge (L:Lnk):Prg × List Dia:=
  let a:=zcz L L.mods 0 cs0
  if 0<a.2.length then(zfl,a.2)else
    let s:=zbI L 257 0 a.1
    if 0<s.bad.length then(zfl,s.bad)else(⟨s.funs,s.main,s.sites⟩,[])
def fewL:List (fC × fC)->Int->Bool
  |[],_=>true
  |s::l,n=>if 70000-n<s.2.size\/1000<s.1.size then false else fewL l (n+s.2.size)
def sumL:List (fC × fC)->Int
  |[]=>0
  |s::l=>s.2.size+sumL l
def zbU (l:List (fC × fC)):Prg × Bool:=
  if 20<l.length\/fewL l 0=false\/5000<sumL l then(zfl,false)else
    let x:=zgk l
    if 0<x.2.length then(zfl,false)else
      let r:=zge x.1
      (r.1,decide (r.2.length=0))
end Go.Gr
namespace Go.Gr
open Go.Abs Go.Proofs
def zlp:MC:=(fun x(_:x=gC tt [] [] [] (gLb 0 (gB Tryz.f161)))=>x) _ (by dsimp[Tryz.f161])
def znX:MC:=(fun x(_:x=gC tt [] [] [(0,zlp)] (gB Tryz.f161))=>x) _ (by dsimp[Tryz.f161])
def zyd:WT Pg 161 31 znX [.tmp 4]:=wT zaa Tryz.func161 (by kernel_rfl)
def znY:MC:=(fun x(_:x=gC tt [] [] [] (gB Tryz.f129))=>x) _ (by dsimp[Tryz.f129])
def zye:WT Pg 129 5 znY [.tmp 2]:=wT zaa Tryz.func129 (by kernel_rfl)
def zlq:MC:=(fun x(_:x=gC tt [] [] [] (gB Tryz.f128))=>x) _ (by dsimp[Tryz.f128])
def ztE:WT Pg 128 5 zlq [.tmp 2]:=wT zaa Tryz.func128 (by kernel_rfl)
def zlr:MC:=(fun x(_:x=gC tt [] [] [] (gLb 0 (gB Tryz.f160)))=>x) _ (by dsimp[Tryz.f160])
def zgQ:MC:=(fun x(_:x=gC tt [] [] [(0,zlr)] (gB Tryz.f160))=>x) _ (by dsimp[Tryz.f160])
def zkB:WT Pg 160 31 zgQ [.tmp 4]:=wT zaa Tryz.func160 (by kernel_rfl)
def zhn:MC:=(fun x(_:x=gC tt [] [(6,[0,1,0,7,15,0,32,0,224,480,1023])] [] (gLb 0 (gB Tryz.f77)))=>x) _ (by dsimp[Tryz.f77])
def zho:MC:=(fun x(_:x=gC tt [] [(11,[0,1,0,7,15,0,32,0,224,480,1023,2047])] [] (gLb 2 (gB Tryz.f77)))=>x) _ (by dsimp[Tryz.f77])
def znZ:MC:=(fun x(_:x=gC tt [] [] [(0,zhn),(2,zho)] (gB Tryz.f77))=>x) _ (by dsimp[Tryz.f77])
def zyf:WT Pg 77 76 znZ [.tmp 4]:=wT zaa Tryz.func77 (by kernel_rfl)
def zn0:MC:=(fun x(_:x=gC tt [] [] [] (gB Tryz.f76))=>x) _ (by dsimp[Tryz.f76])
def zyg:WT Pg 76 24 zn0 [.cell 2 true 4,.tmp 3]:=wT zaa Tryz.func76 (by kernel_rfl)
def zhp:MC:=(fun x(_:x=gC tt [] [] [] (gLb 1 (gB Tryz.f130)))=>x) _ (by dsimp[Tryz.f130])
def zn1:MC:=(fun x(_:x=gC tt [(4,50),(4,64),(6,1)] [] [(1,zhp)] (gB Tryz.f130))=>x) _ (by dsimp[Tryz.f130])
def zyh:WT Pg 130 68 zn1 [.cell 2 true 4,.tmp 3]:=wT zaa Tryz.func130 (by kernel_rfl)
def zfP:MC:=(fun x(_:x=gC tt [] [(9,[0,0,2,6,15,31,63,127,63,511,1023,63,63,6207,14399,32767,65535])] [] (gLb 2 (gB Tryz.f162)))=>x) _ (by dsimp[Tryz.f162])
def zi3:MC:=(fun x(_:x=gC tt [] [(11,[0,1,3,7,7,23,55,127,255,511,1023,511,4095,8191,511,511,49663,115199,262143,524287,1048575])] [(2,zfP)] (gLb 0 (gB Tryz.f162)))=>x) _ (by dsimp[Tryz.f162])
def zls:MC:=(fun x(_:x=gC tt [(6,0)] [] [(0,zi3)] (gB Tryz.f162))=>x) _ (by dsimp[Tryz.f162])
def ztF:WT Pg 162 117 zls [.cell 4 true 4,.tmp 5]:=wT zaa Tryz.func162 (by kernel_rfl)
def zjD:MC:=(fun x(_:x=gC tt [] [] [] (gLb 0 (gB Tryz.f163)))=>x) _ (by dsimp[Tryz.f163])
def zgr:MC:=(fun x(_:x=gC tt [] [(20,[0,1,0,0,12,28,60,127,255,511]),(22,[0,0,3,7,0,16,0,64,192,448,1008,2032,4095,8191])] [] (gLb 4 (gB Tryz.f163)))=>x) _ (by dsimp[Tryz.f163])
def zjE:MC:=(fun x(_:x=gC tt [] [] [(4,zgr)] (gLb 2 (gB Tryz.f163)))=>x) _ (by dsimp[Tryz.f163])
def zl6:MC:=(fun x(_:x=gC tt [(6,0),(6,2)] [(27,[0,0,2,6,14,1,63])] [(0,zjD),(2,zjE)] (gB Tryz.f163))=>x) _ (by dsimp[Tryz.f163])
def zwg:WT Pg 163 102 zl6 [.cell 2 true 4,.tmp 3]:=wT zaa Tryz.func163 (by kernel_rfl)
def zpI:MC:=(fun x(_:x=gC tt [] [] [] (gB Tryz.f152))=>x) _ (by dsimp[Tryz.f152])
def zz4:WT Pg 152 15 zpI [.tmp 2]:=wT zaa Tryz.func152 (by kernel_rfl)
def zn2:MC:=(fun x(_:x=gC tt [] [] [] (gB Tryz.f60))=>x) _ (by dsimp[Tryz.f60])
def zyi:WT Pg 60 22 zn2 [.tmp 2]:=wT zaa Tryz.func60 (by kernel_rfl)
def zhq:MC:=(fun x(_:x=gC tt [] [(19,[0,0,2,0,14,30,63,127,0,256,0,1792,3840,7936,16383,32767])] [] (gLb 1 (gB Tryz.f94)))=>x) _ (by dsimp[Tryz.f94])
def zhr:MC:=(fun x(_:x=gC tt [] [] [] (gLb 3 (gB Tryz.f94)))=>x) _ (by dsimp[Tryz.f94])
def zn3:MC:=(fun x(_:x=gC tt [] [(22,[0,1,3,7,15,31,0,64,192,448,991,2047,4095])] [(1,zhq),(3,zhr)] (gB Tryz.f94))=>x) _ (by dsimp[Tryz.f94])
def zyj:WT Pg 94 90 zn3 [.tmp 4]:=wT zaa Tryz.func94 (by kernel_rfl)
def zlt:MC:=(fun x(_:x=gC tt [] [] [] (gB Tryz.f50))=>x) _ (by dsimp[Tryz.f50])
def ztG:WT Pg 50 19 zlt [.tmp 2]:=wT zaa Tryz.func50 (by kernel_rfl)
def zjF:MC:=(fun x(_:x=gC tt [] [] [] (gLb 0 (gB Tryz.f111)))=>x) _ (by dsimp[Tryz.f111])
def zjG:MC:=(fun x(_:x=gC tt [] [(17,[0,0,2,0,14,30,62,0,128,0,896,1920,4094,8190,16383,32767])] [] (gLb 2 (gB Tryz.f111)))=>x) _ (by dsimp[Tryz.f111])
def zic:MC:=(fun x(_:x=gC tt [(6,0),(6,2)] [(13,[0,1,0,7,15,31])] [(0,zjF),(2,zjG)] (gB Tryz.f111))=>x) _ (by dsimp[Tryz.f111])
def zn4:WT Pg 111 65 zic [.tmp 2]:=wT zaa Tryz.func111 (by kernel_rfl)
def zlu:MC:=(fun x(_:x=gC tt [] [] [] (gLb 0 (gB Tryz.f132)))=>x) _ (by dsimp[Tryz.f132])
def zn5:MC:=(fun x(_:x=gC tt [] [] [(0,zlu)] (gB Tryz.f132))=>x) _ (by dsimp[Tryz.f132])
def zyk:WT Pg 132 25 zn5 [.cell 4 true 6,.tmp 5]:=wT zaa Tryz.func132 (by kernel_rfl)
def zjH:MC:=(fun x(_:x=gC tt [] [] [] (gLb 0 (gB Tryz.f133)))=>x) _ (by dsimp[Tryz.f133])
def zl7:MC:=(fun x(_:x=gC tt [] [] [(0,zjH)] (gB Tryz.f133))=>x) _ (by dsimp[Tryz.f133])
def zwh:WT Pg 133 27 zl7 [.cell 4 true 4,.tmp 5]:=wT zaa Tryz.func133 (by kernel_rfl)
def zgs:MC:=(fun x(_:x=gC tt [] [(15,[0,0,2,6,0,30,62,127,255,511,511,0,3071,8191]),(16,[0,1,3,7,7,23,55,7,247,503,7,2047,4095,8191])] [] (gLb 2 (gB Tryz.f80)))=>x) _ (by dsimp[Tryz.f80])
def zjI:MC:=(fun x(_:x=gC tt [] [(18,[0,1,3,7,15,31,63,127,255,15,527,1551,3599,15,16383,32767,65535,131071,262143,524287,1048575,131071,2228223,6422527,14811135,31588351,131071,134217727,268435455,536870911,1073741823])] [(2,zgs)] (gLb 0 (gB Tryz.f80)))=>x) _ (by dsimp[Tryz.f80])
def zl8:MC:=(fun x(_:x=gC tt [] [] [(0,zjI)] (gB Tryz.f80))=>x) _ (by dsimp[Tryz.f80])
def zwi:WT Pg 80 123 zl8 [.tmp 6]:=wT zaa Tryz.func80 (by kernel_rfl)
def zpJ:MC:=(fun x(_:x=gC tt [] [] [] (gB Tryz.f92))=>x) _ (by dsimp[Tryz.f92])
def zz5:WT Pg 92 20 zpJ [.tmp 4]:=wT zaa Tryz.func92 (by kernel_rfl)
def zn6:MC:=(fun x(_:x=gC tt [] [] [] (gB Tryz.f55))=>x) _ (by dsimp[Tryz.f55])
def zyl:WT Pg 55 20 zn6 [.tmp 4]:=wT zaa Tryz.func55 (by kernel_rfl)
def zlv:MC:=(fun x(_:x=gC tt [] [] [] (gLb 0 (gB Tryz.f139)))=>x) _ (by dsimp[Tryz.f139])
def zn7:MC:=(fun x(_:x=gC tt [(4,128),(6,0)] [] [(0,zlv)] (gB Tryz.f139))=>x) _ (by dsimp[Tryz.f139])
def zym:WT Pg 139 136 zn7 [.cell 4 true 4]:=wT zaa Tryz.func139 (by kernel_rfl)
def zi4:MC:=(fun x(_:x=gC tt [] [(18,[0,1,0,4,0,28,60,124,255,511,1023])] [] (gLb 0 (gB Tryz.f138)))=>x) _ (by dsimp[Tryz.f138])
def zlw:MC:=(fun x(_:x=gC tt [(6,0)] [(3,[0,0,1,7]),(6,[0,0,1,7]),(7,[0,1,3,0,7,31]),(10,[0,0,1,7]),(12,[0,0,1,7]),(20,[0,1,0,4,12,28,3,127]),(21,[0,1,0,3,15])] [(0,zi4)] (gB Tryz.f138))=>x) _ (by dsimp[Tryz.f138])
def ztH:WT Pg 138 91 zlw [.cell 4 true 4,.cell 5 true 4]:=wT zaa Tryz.func138 (by kernel_rfl)
def zi5:MC:=(fun x(_:x=gC tt [] [] [] (gLb 0 (gB Tryz.f31)))=>x) _ (by dsimp[Tryz.f31])
def zlx:MC:=(fun x(_:x=gC tt [] [] [(0,zi5)] (gB Tryz.f31))=>x) _ (by dsimp[Tryz.f31])
def ztI:WT Pg 31 19 zlx [.tmp 4]:=wT zaa Tryz.func31 (by kernel_rfl)
def zjJ:MC:=(fun x(_:x=gC tt [(3,46)] [(10,[0,1,0,0,12,28,60,127,255]),(11,[0,1,0,0,12,28,60,124,255,511,1023])] [] (gLb 0 (gB Tryz.f28)))=>x) _ (by dsimp[Tryz.f28])
def zl9:MC:=(fun x(_:x=gC tt [(6,0)] [] [(0,zjJ)] (gB Tryz.f28))=>x) _ (by dsimp[Tryz.f28])
def zwj:WT Pg 28 91 zl9 [.cell 2 true 6,.tmp 3]:=wT zaa Tryz.func28 (by kernel_rfl)
def zly:MC:=(fun x(_:x=gC tt [] [] [] (gLb 0 (gB Tryz.f48)))=>x) _ (by dsimp[Tryz.f48])
def zn8:MC:=(fun x(_:x=gC tt [] [] [(0,zly)] (gB Tryz.f48))=>x) _ (by dsimp[Tryz.f48])
def zyn:WT Pg 48 25 zn8 [.cell 4 true 3,.tmp 5]:=wT zaa Tryz.func48 (by kernel_rfl)
def zlz:MC:=(fun x(_:x=gC tt [] [] [] (gLb 0 (gB Tryz.f32)))=>x) _ (by dsimp[Tryz.f32])
def zn9:MC:=(fun x(_:x=gC tt [] [] [(0,zlz)] (gB Tryz.f32))=>x) _ (by dsimp[Tryz.f32])
def zyo:WT Pg 32 22 zn9 [.tmp 4]:=wT zaa Tryz.func32 (by kernel_rfl)
def zhy:MC:=(fun x(_:x=gC tt [(3,58)] [(9,[0,1,0,7,15,0,32,0,224,480,1023,2047])] [] (gLb 0 (gB Tryz.f47)))=>x) _ (by dsimp[Tryz.f47])
def zi6:MC:=(fun x(_:x=gC tt [(6,0),(7,1)] [(5,[0,0,2,1,15])] [(0,zhy)] (gB Tryz.f47))=>x) _ (by dsimp[Tryz.f47])
def zpK:WM Pg 47 100 zi6 [.tmp 8,.tmp 9]:=wM zaa Tryz.func47 (by kernel_rfl)
def zfQ:MC:=(fun x(_:x=gC tt [(9,47)] [(11,[0,0,0,4,0,28,60,0,255,511,1023,1023,2047,8191])] [] (gLb 2 (gB Tryz.f29)))=>x) _ (by dsimp[Tryz.f29])
def zfR:MC:=(fun x(_:x=gC tt [(3,65)] [(19,[0,0,0,4,0,28,60,124,0,256,0,1792,3840,7936,16382,32766,65535,131071])] [] (gLb 4 (gB Tryz.f29)))=>x) _ (by dsimp[Tryz.f29])
def zi7:MC:=(fun x(_:x=gC tt [(4,98),(6,2)] [] [(2,zfQ),(4,zfR)] (gLb 0 (gB Tryz.f29)))=>x) _ (by dsimp[Tryz.f29])
def zlA:MC:=(fun x(_:x=gC tt [(6,0)] [] [(0,zi7)] (gB Tryz.f29))=>x) _ (by dsimp[Tryz.f29])
def ztJ:WT Pg 29 104 zlA [.tmp 2,.tmp 3]:=wT zaa Tryz.func29 (by kernel_rfl)
def zfn:MC:=(fun x(_:x=gC tt [] [(13,[0,1,0,0,12,28,60,127,255])] [] (gLb 4 (gB Tryz.f49)))=>x) _ (by dsimp[Tryz.f49])
def zfo:MC:=(fun x(_:x=gC tt [] [] [(4,zfn)] (gLb 2 (gB Tryz.f49)))=>x) _ (by dsimp[Tryz.f49])
def zid:MC:=(fun x(_:x=gC tt [] [] [(2,zfo)] (gLb 0 (gB Tryz.f49)))=>x) _ (by dsimp[Tryz.f49])
def zjK:MC:=(fun x(_:x=gC tt [(1,16)] [] [(0,zid)] (gB Tryz.f49))=>x) _ (by dsimp[Tryz.f49])
def zs8:WT Pg 49 69 zjK [.tmp 6]:=wT zaa Tryz.func49 (by kernel_rfl)
def zgt:MC:=(fun x(_:x=gC tt [] [(9,[0,1,0,0,12,28,60,127,255]),(12,[0,0,0,0,12,28,60,0,0,384,896,1920,4094,8190,16383,32767])] [] (gLb 2 (gB Tryz.f30)))=>x) _ (by dsimp[Tryz.f30])
def zjL:MC:=(fun x(_:x=gC tt [] [] [(2,zgt)] (gLb 0 (gB Tryz.f30)))=>x) _ (by dsimp[Tryz.f30])
def zma:MC:=(fun x(_:x=gC tt [(6,0)] [] [(0,zjL)] (gB Tryz.f30))=>x) _ (by dsimp[Tryz.f30])
def zwk:WT Pg 30 61 zma [.tmp 2]:=wT zaa Tryz.func30 (by kernel_rfl)
def zoa:MC:=(fun x(_:x=gC tt [] [(20,[0,0,0,4,0,16,62,126,1,511])] [] (gB Tryz.f16))=>x) _ (by dsimp[Tryz.f16])
def zyp:WT Pg 16 88 zoa [.cell 2 true 6,.tmp 3]:=wT zaa Tryz.func16 (by kernel_rfl)
end Go.Gr
namespace Go.Gr
open Go.Abs Go.Proofs List
def zfE{t:Typ}(o:DV.ok (.agg t.enc)):t.names.length<=zaf/\t.kids.length<=zaf:=by
 rw[Typ.enc_eq]at o
 simp only[DV.ok,D.okL,D.ok,ze9,aU]at o
 exact⟨o.2.2.1.1,o.2.2.2.1.1⟩
@[simp] theorem Typ.enc_g1(t:Typ)(h:1<t.enc.length):t.enc[1]=.str t.name:=by have:=t.enc_1;rw[aA h]at this;exact bK this
mutual
def zkS:∀(t:Typ) (m:Int),1<=zbo t m/\zbo t m<=max 1 m
 |.mk _ _ _ l,m=>by have:=zjk l m 1 (by omega);rw[zbo];omega
def zjk:∀(l:List Typ) (m n:Int),1<=n->n<=zbD l m n/\zbD l m n<=max n m
 |[],m,n,h=>by rw[zbD];omega
 | t::l,m,n,h=>by
  rw[zbD]
  split
  ·have h1:=zkS t (m-n)
   have h2:=zjk l m (n+zbo t (m-n)) (by omega)
   omega
  ·omega
end
def zwL{l:List Typ}{m n:Int}(h:¬n<m):zbD l m n=n:=by
 cases l with
 |nil=>rw[zbD]
 |cons d l=>rw[zbD,aB h]
def zC4(t:Typ)(ih:∀e,e∈t.kids->∀m:Int,1<=m->m<=1000->PCall Pg 161 [.agg e.enc,.one (.int .i64 m)] (.one (.int .i64 (zbo e m))))(m:Int)(h1:1<=m)(h2:m<=1000):
  PCall Pg 161 [.agg t.enc,.one (.int .i64 m)] (.one (.int .i64 (zbo t m))):=by
 refine zyd (by simp) fun o c hN hp=>?_
 have hf:=zfE o.1
 unfold zaf at hf
 have e:zbo t m=zbD t.kids m 1:=by cases t;rw[zbo];try rfl
 rw[e]
 unfold znX
 simp
 refine fK zaa hp (fun x:Nat × Int=>x.1<=t.kids.length/\(1<=x.2/\x.2<=1000)/\zbD (t.kids.drop x.1) m x.2=zbD t.kids m 1) (fun x=>[(6,.c (.d (.int .i64 x.1))),(5,.c (.d (.int .i64 x.2))),(2,.c (.d (.rp t.enc 0))),(1,.c (.d (.int .i64 m)))]) (fun _=>[]) (fun x=>t.kids.length-x.1) (0,1) [] ⟨by simp,by simp,by simp⟩ (by simp) fun⟨j,n⟩ ⟨hx1,hx3,hx2⟩=>?_
 unfold zlp
 simp only at hx1 hx2 hx3
 simp
 apply gI<;>intro h
 ·have hj:j<t.kids.length:=by simpa using h
  rw[aG hj]at hx2
  apply gI<;>intro h
  ·simp at h
   rw[zbD,aC h]at hx2
   have hw:IntKind.i64.wrap (m-n)=m-n:=wI
   simp[aA hj,hw]
   refine gN (ih _ (aS hj) (m-n) (by omega) (by omega)) ?_
   have hle:=zkS t.kids[j] (m-n)
   simp
   refine fD (j+1,n+zbo t.kids[j] (m-n)) [] ⟨by simp;omega,by simp only;omega,hx2⟩ (by simp;omega) ?_
   simp
   exact⟨wI,wI⟩
  ·simp at h
   rw[zwL (by omega)]at hx2
   simp[hx2]
 ·have hj:j=t.kids.length:=by simp at h;omega
  subst hj
  rw[aO,zbD]at hx2
  simp[hx2]
mutual
def zxI:∀(t:Typ) (m:Int),1<=m->m<=1000->PCall Pg 161 [.agg t.enc,.one (.int .i64 m)] (.one (.int .i64 (zbo t m)))
 |.mk k n s l,m,h1,h2=>zC4 (.mk k n s l) (fun e h=>zu8 l e h) m h1 h2
def zu8:∀(l:List Typ) (e:Typ),e∈l->∀m:Int,1<=m->m<=1000->PCall Pg 161 [.agg e.enc,.one (.int .i64 m)] (.one (.int .i64 (zbo e m)))
 |[],e,h=>by cases h
 |d::l,e,h=>by
  cases h with
  |head=>exact zxI d
  |tail _ h=>exact zu8 l e h
end
def zru(t:Typ):PCall Pg 129 [.agg t.enc] (.one (.int .i64 (zbo t 201))):=by
 refine zye (by simp) fun o c hN hp=>?_
 unfold znY
 simp
 refine gN (zxI t 201 (by omega) (by omega)) ?_
 simp
def zu9(f:Typ->Int)(B:Int):∀(l:List Typ) (a:Int),0<=a->a<=B->(∀x,x∈l->f x<=B)->0<=l.foldl (fun h k=>if h<f k then f k else h) a/\l.foldl (fun h k=>if h<f k then f k else h) a<=B
 |[],a,h0,h,_=>⟨h0,h⟩
 |x::l,a,h0,h,hl=>by
  have hx:=hl x (by simp)
  rw[foldl_cons]
  split
  ·exact zu9 f B l _ (by omega) hx fun y hy=>hl y (by simp[hy])
  ·exact zu9 f B l _ h0 h fun y hy=>hl y (by simp[hy])
def zva:∀(n:Nat) (t:Typ),1<=zby n t/\zby n t<=max 1 n
 |0,t=>by rw[zby];omega
 |1,t=>by rw[zby];omega
 |n+2,t=>by
  rw[zby]
  have:=zu9 (zby (n+1)) (n+1) t.kids 0 (by omega) (by omega) fun x _=>by have:=zva (n+1) x;omega
  omega
def zxJ:∀(n:Nat) (t:Typ),n<=100->PCall Pg 160 [.agg t.enc,.one (.int .i64 n)] (.one (.int .i64 (zby n t)))
 |0,t,hn=>by
  refine zkB (by simp) fun o c hN hp=>?_
  unfold zgQ
  simp[zby]
 |1,t,hn=>by
  refine zkB (by simp) fun o c hN hp=>?_
  unfold zgQ
  simp[zby]
 | n+2,t,hn=>by
  refine zkB (by simp) fun o c hN hp=>?_
  have hf:=zfE o.1
  unfold zaf at hf
  have e:zby (n+2) t=t.kids.foldl (fun h k=>if h<zby (n+1) k then zby (n+1) k else h) 0+1:=by rw[zby]
  rw[e]
  obtain⟨R,hR⟩:∃R,t.kids.foldl (fun h k=>if h<zby (n+1) k then zby (n+1) k else h) 0=R:=⟨_,rfl⟩
  rw[hR]
  unfold zgQ
  have hne:¬(((n+2:Nat):Int)<=1):=by omega
  have hne':¬((n:Int)+2<=1):=by omega
  have hw:IntKind.i64.wrap ((n:Int)+2-1)=((n+1:Nat):Int):=by rw[wI];omega
  simp[hne,hne']
  refine fK zaa hp (fun x:Nat × Int=>x.1<=t.kids.length/\(0<=x.2/\x.2<=n+1)/\(t.kids.drop x.1).foldl (fun h k=>if h<zby (n+1) k then zby (n+1) k else h) x.2=R) (fun x=>[(6,.c (.d (.int .i64 x.1))),(5,.c (.d (.int .i64 x.2))),(1,.c (.d (.int .i64 (n+2:Nat)))),(2,.c (.d (.rp t.enc 0)))]) (fun _=>[]) (fun x=>t.kids.length-x.1) (0,0) [] ⟨by simp,⟨by simp,by simp only;omega⟩,by simpa using hR⟩ (by simp) fun⟨j,r⟩ ⟨hx1,hx3,hx2⟩=>?_
  unfold zlr
  simp only at hx1 hx2 hx3
  simp
  apply gI<;>intro h
  ·have hj:j<t.kids.length:=by simpa using h
   rw[aG hj,foldl_cons]at hx2
   simp[aA hj,hw]
   refine gN (zxJ (n+1) t.kids[j] (by omega)) ?_
   have hle:=zva (n+1) t.kids[j]
   generalize zby (n+1) t.kids[j]=q at*
   by_cases hq:r<q
   ·rw[aC hq]at hx2
    simp[hq]
    refine fD (j+1,q) [] ⟨by simp;omega,by simp only;omega,hx2⟩ (by simp;omega) ?_
    simp
    exact wI
   ·rw[aB hq]at hx2
    simp[hq]
    refine fD (j+1,r) [] ⟨by simp;omega,by simp only;omega,hx2⟩ (by simp;omega) ?_
    simp
    exact wI
  ·have hj:j=t.kids.length:=by simp at h;omega
   subst hj
   rw[aO,foldl_nil]at hx2
   subst hx2
   exact wI
def zg5(t:Typ):PCall Pg 128 [.agg t.enc] (.one (.int .i64 (zby 17 t))):=by
 refine ztE (by simp) fun o c hN hp=>?_
 unfold zlq
 simp
 refine gN (zxJ 17 t (by omega)) ?_
 simp
def zij(t:Typ):PCall Pg 152 [.agg t.enc] (.one (.int .i64 (zaj t))):=by
 refine zz4 (by simp) fun o c hN hp=>?_
 unfold zpI zaj
 by_cases h1:t.kind=1
 ·simp[h1]
  exact wI
 by_cases h2:t.kind=2
 ·simp[h2]
  exact wI
 by_cases h3:t.kind=3
 ·simp[h3]
  exact wI
 by_cases h4:t.kind=4
 ·simp[h4]
  exact wI
 by_cases h5:t.kind=5
 ·simp[h5]
  exact wI
 by_cases h6:t.kind=6
 ·simp[h6]
  exact wI
 rw[aC (by omega)]
 simp[h1,h2,h3,h4,h5,h6]
def zhc:∀(a b:List Typ),zbF a b=eqF zaV a b
 |[],[]=>rfl
 |[],_::_=>rfl
 |_::_,[]=>rfl
 |x::a,y::b=>by rw[zbF,eqF,zhc a b]
def zpc(a b:Typ):zaV a b=(decide (a.kind=b.kind)&&(decide (a.name=b.name)&&(decide (a.names=b.names)&&eqF zaV a.kids b.kids))):=by
 cases a;rw[zaV,zhc];try rfl
def zgw{α:Type}{q:α->α->Bool}:∀{a b:List α},eqF q a b=true->a.length=b.length
 |[],[],_=>rfl
 |[],_::_,h=>by cases h
 |_::_,[],h=>by cases h
 |x::a,y::b,h=>by
  rw[eqF,aD]at h
  simp[zgw h.2]
def zC5{α:Type}{a b:List α}{j:Nat}(h1:j<a.length)(h2:j<b.length)(h:a.take j=b.take j)(e:a[j]=b[j]):a.take (j+1)=b.take (j+1):=by
 rw[aJ h1,aJ h2,h,e]
def zC6(a b:Typ)(ih:∀x,x∈a.kids->∀y,PCall Pg 77 [.agg x.enc,.agg y.enc] (.one (.bool (zaV x y)))):PCall Pg 77 [.agg a.enc,.agg b.enc] (.one (.bool (zaV a b))):=by
 have e:=zpc a b
 refine zyf (by simp) fun o c hN hp=>?_
 have hf:=zfE o.1
 unfold zaf at hf
 generalize zaV a b=R at*
 have k2:∀{Q:Exit->St->Prop} {S:St} {g} {ms:List Nat} (hl:a.kids.length=b.kids.length) (h0:Match ms S [(6,.c (.d (.int .i64 0))),(3,.c (.d (.rp b.enc 0))),(2,.c (.d (.rp a.enc 0)))] []),
   (eqF zaV a.kids b.kids=false->∀T M n,Abs.look T 4=.c (.d (.bool false))->Q .ret ⟨T,M,n⟩)->(eqF zaV a.kids b.kids=true->∀T M n,Q (.exit 2) ⟨T,M,n⟩)->lw_ Pg c zho Q g S:=by
  intro Q S g ms hl h0 hn hy
  refine fK zaa hp (fun j:Nat=>j<=a.kids.length/\eqF zaV (a.kids.drop j) (b.kids.drop j)=eqF zaV a.kids b.kids) (fun j=>[(6,.c (.d (.int .i64 j))),(3,.c (.d (.rp b.enc 0))),(2,.c (.d (.rp a.enc 0)))]) (fun _=>[]) (fun j=>a.kids.length-j) 0 ms ⟨by simp,by simp⟩ h0 fun j ⟨h1,h2⟩=>?_
  unfold zho
  simp
  apply gI<;>intro h
  ·have hj:j<a.kids.length:=by simpa using h
   have hj2:j<b.kids.length:=by omega
   rw[aG hj,aG hj2,eqF]at h2
   simp[aA hj,aA hj2]
   refine gN (ih _ (aS hj) _) ?_
   generalize zaV a.kids[j] b.kids[j]=q at*
   cases q with
   |true=>
    simp at h2
    simp
    refine⟨by decide,?_⟩
    refine fD (j+1) [] ⟨by omega,h2⟩ (by omega) ?_
    simp
    exact wI
   |false=>
    simp at h2
    simp
    exact⟨by decide,hn h2 _ _ _ (by simp)⟩
  ·have hj:j=a.kids.length:=by simp at h;omega
   subst hj
   rw[aO,hl,aO]at h2
   exact hy h2.symm _ _ _
 have k1:∀{Q:Exit->St->Prop} {S:St} {g} {ms:List Nat} (hl:a.names.length=b.names.length) (h0:Match ms S [(5,.c (.d (.int .i64 0))),(3,.c (.d (.rp b.enc 0))),(2,.c (.d (.rp a.enc 0)))] []),
   (a.names≠b.names->∀T M n,Abs.look T 4=.c (.d (.bool false))->Q .ret ⟨T,M,n⟩)->(a.names=b.names->∀T M n,Abs.look T 2=.c (.d (.rp a.enc 0))->Abs.look T 3=.c (.d (.rp b.enc 0))->Q (.exit 0) ⟨T,M,n⟩)->lw_ Pg c zhn Q g S:=by
  intro Q S g ms hl h0 hn hy
  refine fK zaa hp (fun j:Nat=>j<=a.names.length/\a.names.take j=b.names.take j) (fun j=>[(5,.c (.d (.int .i64 j))),(3,.c (.d (.rp b.enc 0))),(2,.c (.d (.rp a.enc 0)))]) (fun _=>[]) (fun j=>a.names.length-j) 0 ms ⟨by simp,by simp⟩ h0 fun j ⟨h1,h2⟩=>?_
  unfold zhn
  simp
  apply gI<;>intro h
  ·have hj:j<a.names.length:=by simpa using h
   have hj2:j<b.names.length:=by omega
   simp[aA hj,aA hj2]
   by_cases q:a.names[j]=b.names[j]
   ·simp[q]
    refine⟨by decide,?_⟩
    refine fD (j+1) [] ⟨by omega,zC5 hj hj2 h2 q⟩ (by omega) ?_
    simp
    exact wI
   ·simp[q]
    exact⟨by decide,hn (fun z=>q (by simp[z])) _ _ _ (by simp)⟩
  ·have hj:j=a.names.length:=by simp at h;omega
   subst hj
   rw[bS,hl,bS]at h2
   exact hy h2 _ _ _ (by simp) (by simp)
 unfold znZ
 by_cases q1:a.kind=b.kind
 rotate_left
 ·simp[q1]at e
  simp[q1,e]
 by_cases q2:a.name=b.name
 rotate_left
 ·simp[q2]at e
  simp[q1,q2,e]
 by_cases q3:a.names.length=b.names.length
 rotate_left
 ·have:¬a.names=b.names:=fun z=>q3 (by rw[z])
  have q3':¬(a.names.length:Int)=b.names.length:=by omega
  simp[this]at e
  simp[q1,q2,q3,q3',e]
 by_cases q4:a.kids.length=b.kids.length
 rotate_left
 ·have:eqF zaV a.kids b.kids=false:=by
   cases h:eqF zaV a.kids b.kids with
   |false=>rfl
   |true=>exact absurd (zgw h) q4
  have q4':¬(a.kids.length:Int)=b.kids.length:=by omega
  simp[this]at e
  simp[q1,q2,q3,q4,q4',e]
 simp[q1,q2,q3,q4]
 refine k1 q3 (ms:=[]) (by simp) (fun hn T M n t4=>?_) (fun hy T M n t2 t3=>?_)
 ·simp[hn]at e
  simp[t4,e]
 ·simp[q1,q2,hy]at e
  simp
  refine k2 q4 (ms:=[]) (by simp[t2,t3]) (fun hn T M n t4=>?_) (fun hy T M n=>?_)
  ·rw[hn]at e
   simp[t4,e]
  ·rw[hy]at e
   simp[e]
mutual
def zh0:∀(a b:Typ),PCall Pg 77 [.agg a.enc,.agg b.enc] (.one (.bool (zaV a b)))
 |.mk k n s l,b=>zC6 _ b fun x hx y=>zvb l x hx y
def zvb:∀(l:List Typ) (x:Typ),x∈l->∀y,PCall Pg 77 [.agg x.enc,.agg y.enc] (.one (.bool (zaV x y)))
 |c::l,x,h,y=>by
  cases aM.1 h with
  |inl e=>rw[e];exact zh0 c y
  |inr e=>exact zvb l x e y
end
def zro(s:fC):∀l,posR s l<=l.length
 |[]=>aN _
 |n::l=>by have:=zro s l;unfold posR;split<;>simp<;>omega
abbrev bx4:Blk:=.box [.d (.int .i64 0),.d (.str (bs [])),.d (.sl true 1 []),.d (.sl true 4 [])]
abbrev recT(ns:List fC)(ts:List Typ)(i:Nat):List (Nat × AV):=[(7,.c (.d (.int .i64 i))),(6,.c (.ptr 1 0)),(4,.c (.ptr 0 0)),(1,.c (.d (.sl false 4 (ts.map Typ.enc)))),(0,.c (.d (.sl false 1 (encS ns))))]
abbrev recB(ns:List fC)(ks:List Typ):List Blk:=[bx4,.box [.d (.int .i64 5),.d (.str (bs [])),.msl 1 2 0 ns.length,.msl 4 3 0 ks.length],.arr 1 ((encS ns).map (·.map .d)),.arr 4 ((ks.map Typ.enc).map (·.map .d))]
def zEH{c:Ctx}(hp:c.pure)(ns:List fC)(ts:List Typ)(i:Nat)(hi:i<ns.length)(ok:Bool)(ms:List fC)(ks:List Typ)(hms:ms.length<=100){Q:Exit->St->Prop}{S:St}{g}{l:List Nat}
  (h0:Match l S ((9,.c (.d (.int .i64 0)))::(8,.c (.d (.bool ok)))::recT ns ts i) (recB ms ks))
  (hQ:∀T,Abs.look T 9=.c (.d (.int .i64 (posR ns[i] ms)))->Abs.look T 8=.c (.d (.bool ok))->Abs.look T 7=.c (.d (.int .i64 i))->Abs.look T 6=.c (.ptr 1 0)->Abs.look T 4=.c (.ptr 0 0)->Abs.look T 1=.c (.d (.sl false 4 (ts.map Typ.enc)))->Abs.look T 0=.c (.d (.sl false 1 (encS ns)))->Q (.exit 2) ⟨T,hpOf (recB ms ks),4⟩):lw_ Pg c zfP Q g S:=by
 refine fK zaa hp (fun k:Nat=>k<=ms.length/\k+posR ns[i] (ms.drop k)=posR ns[i] ms) (fun k=>(9,.c (.d (.int .i64 k)))::(8,.c (.d (.bool ok)))::recT ns ts i) (fun _=>recB ms ks) (fun k=>ms.length-k) 0 l ⟨by simp,by simp⟩ h0 fun k ⟨h1,h2⟩=>?_
 unfold zfP
 simp
 apply gI<;>intro h
 ·have hk:k<ms.length:=by simpa using h
  rw[aG hk,posR]at h2
  simp[aA hk,aA hi]
  refine⟨hk,by decide,?_⟩
  apply gI<;>intro h
  ·rw[aC (by unfold ltS;exact h)]at h2
   refine fD (k+1) [0,1,2,3] ⟨by omega,by omega⟩ (by omega) ?_
   simp
   exact wI
  ·rw[aB (by unfold ltS;simpa using h)]at h2
   exact hQ _ (by simp;omega) (by simp) (by simp) (by simp) (by simp) (by simp) (by simp)
 ·have hk:k=ms.length:=by simp at h;omega
  subst hk
  rw[aO,posR]at h2
  simp
  exact⟨by decide,hQ _ (by simp;omega) (by simp) (by simp) (by simp) (by simp) (by simp) (by simp)⟩
def zrp(ms:List fC)(ks:List Typ):Typ.enc (.mk 5 (bs []) ms ks)=[.int .i64 5,.str (bs []),.sl false 1 (encS ms),.sl false 4 (ks.map Typ.enc)]:=by rw[Typ.enc_eq];try rfl
def zcr(ks:List Typ):take ks.length (List.map ((fun x=>List.map AC.d x)∘Typ.enc) ks)=List.map ((fun x=>List.map AC.d x)∘Typ.enc) ks:=aF (by simp)
def zEI(ms:List fC):take ms.length (List.map (fun x=>List.map AC.d x) (encS ms))=List.map (fun x=>List.map AC.d x) (encS ms):=aF (by simp)
def mid{α:Type}{l:List α}{k n:Nat}(hn:n=l.length)(hk:k<=l.length)(x:α):take (k+1) (take k (take k l)++[x])++take (n-k) (drop k l)=take k l++x::drop k l:=by
 subst hn
 rw[aF (l:=take k (take k l)++[x]) (by simp;omega),aF (l:=drop k l) (by simp),take_take,dx,append_assoc];rfl
def znt{ks:List Typ}{L:List (List AC)}(h:∀x,x∈L->x∈List.map ((fun x=>List.map AC.d x)∘Typ.enc) ks)(n:Nat):∀x,x∈L->AC.lts n x=true:=fun x hx=>by
 obtain⟨t,_,rfl⟩:=ai.1 (h x hx)
 simp
theorem zmF(ns:List fC)(ts:List Typ):PCall Pg 162 [.one (.sl false 1 (encS ns)),.one (.sl false 4 (ts.map Typ.enc))] (.tup [.agg (zdM ns ts).1.enc,.one (.bool (zdM ns ts).2)]):=by
 refine ztF (by simp) fun o c hN hp=>?_
 have hb:Typ.enc (.mk 5 (bs []) [] [])=[.int .i64 5,.str (bs []),.sl false 1 [],.sl false 4 []]:=rfl
 obtain⟨R,hR⟩:∃R,zdM ns ts=R:=⟨_,rfl⟩
 rw[hR]
 unfold zdM at hR
 unfold zls
 by_cases h1:ns.length=ts.length
 rotate_left
 ·have h1':¬(ns.length:Int)=ts.length:=by omega
  rw[aC (.inl h1)]at hR
  subst hR
  simp[h1,h1',hb]
 by_cases h2:16<ns.length
 ·have h2':(16:Int)<ns.length:=by omega
  have h2'':(16:Int)<ts.length:=by omega
  rw[aC (.inr h2)]at hR
  subst hR
  simp[h1,h2',h2'',hb]
 have h2':¬(16:Int)<ns.length:=by omega
 have h2'':¬(16:Int)<ts.length:=by omega
 rw[aB (by omega)]at hR
 simp[h1,h2',h2'']
 refine fQ [.c 1 2,.c 1 3] ?_
 simp
 refine fK zaa hp (fun x:Nat × List fC × List Typ=>x.1<=ns.length/\x.2.1.length=x.2.2.length/\x.2.1.length<=x.1/\recR (ns.drop x.1) (ts.drop x.1) x.2.1 x.2.2=recR ns ts [] []) (fun x=>recT ns ts x.1) (fun x=>recB x.2.1 x.2.2) (fun x=>ns.length-x.1) (0,[],[]) [0,1,2,3] ⟨by simp,rfl,by simp,by simp⟩ (by simp[encS]) fun⟨i,ms,ks⟩ ⟨i1,i2,i3,i4⟩=>?_
 unfold zi3
 simp only at i1 i2 i3 i4
 simp
 apply gI<;>intro h
 ·have hi:i<ns.length:=by simpa using h
  have ht:i<ts.length:=by omega
  rw[aG hi,aG ht,recR]at i4
  simp[aA hi]
  refine gN (zns _) ?_
  simp
  refine zEH hp ns ts i hi (zbg ns[i]) ms ks (by omega) (l:=[0,1,2,3]) (by simp) fun T t9 t8 t7 t6 t4 t1 t0=>?_
  have hpl:=zro ns[i] ms
  generalize posR ns[i] ms=k at*
  simp[t9,t8,t7,t6]
  by_cases hn:zbg ns[i]=true
  rotate_left
  ·rw[aC (.inl (by simpa using hn))]at i4
   rw[<-i4]at hR
   subst hR
   have z1:take ms.length (encS ms)=encS ms:=aF (by simp)
   have z2:take ks.length (List.map Typ.enc ks)=List.map Typ.enc ks:=aF (by simp)
   simp[hn,t4]
   refine⟨by decide,?_⟩
   simp[z1,z2,zrp]
  have hks:k<=ks.length:=by omega
  have hmin:min k ms.length=k:=by omega
  have hmin2:min k ks.length=k:=by omega
  by_cases hk:k<ms.length
  ·by_cases he:ms[k]=ns[i]
   ·rw[aC (.inr (by rw[aA hk,he]))]at i4
    rw[<-i4]at hR
    subst hR
    have z1:take ms.length (encS ms)=encS ms:=aF (by simp)
    have z2:take ks.length (List.map Typ.enc ks)=List.map Typ.enc ks:=aF (by simp)
    simp[hn,t4,t0,hk,aA hk,aA hi,he]
    refine⟨by decide,?_⟩
    simp[z1,z2,zrp]
   ·rw[aB (by rw[aA hk];simp[hn,he])]at i4
    simp[hn,t4,t0,t1,hk,aA hk,aA hi,aA ht,he,hmin,hmin2,hpl,hks]
    refine⟨by decide,by omega,by omega,by omega,by omega,by omega,by omega,?_⟩
    refine fD (i+1,ms.take k++ns[i]::ms.drop k,ks.take k++ts[i]::ks.drop k) [0,1,6,9] ⟨by simp only;omega,by simp;omega,by simp;omega,i4⟩ (by simp only;omega) ?_
    simp[t0,t1,t4,t6,t7]
    refine⟨wI,⟨by omega,by omega⟩,?_,mid (by simp) (by simp;omega) _,znt (fun x hx=>bW hx) 4,znt (fun x hx=>dM hx) 4⟩
    rw[mid (l:=List.map (fun x=>List.map AC.d x) (encS ms)) (by simp) (by simp;omega)]
    simp[encS,map_take,map_drop]
  ·have hk2:k=ms.length:=by omega
   rw[aB (by rw[aR (by omega)];simp[hn])]at i4
   simp[hn,t4,t0,t1,hk,aA hi,aA ht,hmin,hmin2,hpl,hks]
   refine⟨by decide,by omega,by omega,by omega,by omega,by omega,by omega,?_⟩
   refine fD (i+1,ms.take k++ns[i]::ms.drop k,ks.take k++ts[i]::ks.drop k) [0,1,6,9] ⟨by simp only;omega,by simp;omega,by simp;omega,i4⟩ (by simp only;omega) ?_
   simp[t0,t1,t4,t6,t7]
   refine⟨wI,⟨by omega,by omega⟩,?_,mid (by simp) (by simp;omega) _,znt (fun x hx=>bW hx) 4,znt (fun x hx=>dM hx) 4⟩
   rw[mid (l:=List.map (fun x=>List.map AC.d x) (encS ms)) (by simp) (by simp;omega)]
   simp[encS,map_take,map_drop]
 ·have hi:i=ns.length:=by simp at h;omega
  subst hi
  rw[aO,recR]at i4
  rotate_left
  ·intros;contradiction
  rw[<-i4]at hR
  subst hR
  have z1:take ms.length (List.map (fun x=>List.map AC.d x) (encS ms))=List.map (fun x=>List.map AC.d x) (encS ms):=zEI ms
  have z3:take ms.length (encS ms)=encS ms:=aF (by simp)
  have z4:take ks.length (List.map Typ.enc ks)=List.map Typ.enc ks:=aF (by simp)
  simp[z1,zcr,zrp,z3,z4]
def zhY(ks:List Typ):Typ.enc (.mk 7 (bs []) [] ks)=[.int .i64 7,.str (bs []),.sl false 1 [],.sl false 4 (ks.map Typ.enc)]:=by rw[Typ.enc_eq];try rfl
mutual
def zkA:∀t:Typ,zaV t t=true
 |.mk k n s l=>by rw[zaV];simp[Typ.kind,Typ.name,Typ.names,Typ.kids,znU l]
def znU:∀l:List Typ,zbF l l=true
 |[]=>rfl
 |t::l=>by rw[zbF,zkA t,znU l];try rfl
end
abbrev arrT(l:List Typ):Blk:=.arr 4 ((l.map Typ.enc).map (·.map .d))
abbrev uniB(all ks:List Typ):List Blk:=[bx4,arrT all,.box [.d (.int .i64 7),.d (.str (bs [])),.d (.sl true 1 []),.msl 4 3 0 ks.length],arrT ks]
abbrev uniT(all:List Typ)(tag:Nat):List (Nat × AV):=[(7,.c (.d (.int .i64 tag))),(6,.c (.ptr 2 0)),(4,.c (.msl 4 1 0 all.length)),(2,.c (.ptr 0 0))]
def zoG(tag:Int):∀(l:List Typ) (had:Bool) (ks:List Typ),(tagR tag l had ks).1.2.length<=ks.length+l.length
 |[],had,ks=>by simp[tagR]
 | x::l,had,ks=>by
  have h:(if had=true then ks else ks++[x]).length<=ks.length+1:=by split<;>simp
  rw[tagR]
  by_cases h0:x.kind=0
  ·rw[aC h0];simp
  rw[aB h0]
  by_cases h1:zaj x≠tag
  ·rw[aC h1]
   have:=zoG tag l had ks;rw[length_cons];omega
  rw[aB h1]
  simp only
  generalize (if had=true then ks else ks++[x])=k2 at*
  split
  ·have:=zoG tag l true k2
   rw[length_cons];omega
  ·rw[length_cons];simp only;omega
def zFu{c:Ctx}(hp:c.pure)(all:List Typ)(hall:all.length<=1000000)(tag:Nat)(htag:tag<6)(ks:List Typ)(hks:ks.length<=10000000)(F0:(Bool × List Typ) × Bool)(hF:tagR tag all false ks=F0){Q:Exit->St->Prop}{S:St}{g}{ms:List Nat}
  (h0:Match ms S ((9,.c (.d (.int .i64 0)))::(8,.c (.d (.bool false)))::uniT all tag) (uniB all ks))
  (hN:F0.2=false->∀T M n,Abs.look T 2=.c (.ptr 0 0)->Abs.look T 3=.c (.d (.bool false))->M 0=.box [.d (.int .i64 7),.d (.str (bs [])),.d (.sl true 1 []),.msl 4 3 0 F0.1.2.length]->M 3=arrT F0.1.2->Q .ret ⟨T,M,n⟩)
  (hQ:F0.2=true->∀T,Abs.look T 7=.c (.d (.int .i64 tag))->Abs.look T 6=.c (.ptr 2 0)->Abs.look T 4=.c (.msl 4 1 0 all.length)->Abs.look T 2=.c (.ptr 0 0)->Q (.exit 4) ⟨T,hpOf (uniB all F0.1.2),4⟩):lw_ Pg c zgr Q g S:=by
 refine fK zaa hp (fun x:Nat × Bool × List Typ=>x.1<=all.length/\x.2.2.length<=ks.length+x.1/\(x.2.1=true->x.2.2≠[])/\tagR tag (all.drop x.1) x.2.1 x.2.2=F0) (fun x=>(9,.c (.d (.int .i64 x.1)))::(8,.c (.d (.bool x.2.1)))::uniT all tag) (fun x=>uniB all x.2.2) (fun x=>all.length-x.1) (0,false,ks) ms ⟨by simp,by simp,by simp,by simpa using hF⟩ h0 fun⟨i,had,l⟩ ⟨h1,h2,h3,h4⟩=>?_
 unfold zgr
 simp only at h1 h2 h3 h4
 simp
 apply gI<;>intro h
 ·have hi:i<all.length:=by simpa using h
  rw[aG hi,tagR]at h4
  obtain⟨x,hx⟩:∃x,all[i]=x:=⟨_,rfl⟩
  have hg:all[i]?=some x:=by rw[aA hi,hx]
  rw[hx]at h4
  simp[hi,hx,hg]
  by_cases k0:x.kind=0
  ·rw[aC k0]at h4
   subst h4
   simp[k0]
   exact hN rfl _ _ _ (by simp) (by simp) (by simp) (by simp)
  rw[aB k0]at h4
  simp[k0,hi,hx,hg]
  refine gN (zij x) ?_
  by_cases kt:zaj x=tag
  rotate_left
  ·rw[aC kt]at h4
   simp[kt]
   refine fD (i+1,had,l) [0,1,2,3] ⟨by simp only;omega,by simp only;omega,h3,h4⟩ (by simp only;omega) ?_
   simp
   exact wI
  rw[aB (fun z=>z kt)]at h4
  cases had with
  |false=>
   simp only[ae,if_false,getLastD_concat]at h4
   have hw:IntKind.i64.wrap ((l.length:Int)+1-1)=(l.length:Int):=by rw[wI];omega
   have z:take l.length (List.map ((fun x=>List.map AC.d x)∘Typ.enc) l)=List.map ((fun x=>List.map AC.d x)∘Typ.enc) l:=zcr l
   have hwl:IntKind.i64.wrap (l.length:Int)=(l.length:Int):=wI
   have g:(List.map ((fun x=>List.map AC.d x)∘Typ.enc) l++[List.map AC.d x.enc])[l.length]?=some (List.map AC.d x.enc):=by simp
   simp[kt,hi,hx,hg,hwl,z,g]
   refine⟨by omega,by decide,by omega,?_⟩
   refine gN (zh0 _ _) ?_
   have hs:=zkA x
   rw[aC hs]at h4
   simp[hs]
   refine⟨by decide,?_⟩
   refine fD (i+1,true,l++[x]) [0,1,2,4] ⟨by simp only;omega,by simp;omega,by simp,h4⟩ (by simp only;omega) ?_
   simp
   exact wI
  | true=>
   have hne:=h3 rfl
   simp only[if_true]at h4
   have hlp:0<l.length:=List.length_pos_iff.2 hne
   have hw:IntKind.i64.wrap ((l.length:Int)-1)=((l.length-1:Nat):Int):=by rw[wI];omega
   have hlast:l.getLastD noT=l[l.length-1]:=by
    rw[getLastD_eq_getLast?,getLast?_eq_getElem?,aA (by omega)];try rfl
   rw[hlast]at h4
   have hlt:l.length-1<l.length:=by omega
   simp[kt,hi,hx,hg,hw,aA hlt,hlt]
   refine gN (zh0 _ _) ?_
   by_cases hs:zaV x l[l.length-1]=true
   ·rw[aC hs]at h4
    simp[hs]
    refine⟨by decide,?_⟩
    refine fD (i+1,true,l) [0,1,2,3] ⟨by simp only;omega,by simp only;omega,fun _=>hne,h4⟩ (by simp only;omega) ?_
    simp
    exact wI
   ·rw[aB hs]at h4
    subst h4
    simp[hs]
    refine⟨by decide,?_⟩
    exact hN rfl _ _ _ (by simp) (by simp) (by simp) (by simp)
 ·have hi:i=all.length:=by simp at h;omega
  subst hi
  rw[aO,tagR]at h4
  subst h4
  exact hQ rfl _ (by simp) (by simp) (by simp) (by simp)
def zi2(i:Nat):List Int:=[0,1,2,3,4,5].drop i
def ztC{i:Nat}(h:i<6):zi2 i=(i:Int)::zi2 (i+1):=by
 have:∀i:Fin 6,zi2 i.val=((i.val:Nat):Int)::zi2 (i.val+1):=by decide
 exact this ⟨i,h⟩
def zoH(kids:List Typ)(hk:(kids.flatMap mems).length<=1000000)(hkl:kids.length<=1000000):PCall Pg 163 [.one (.sl false 4 (kids.map Typ.enc))] (.tup [.agg (zfc kids).1.enc,.one (.bool (zfc kids).2)]):=by
 refine zwg (by simp) fun o c hN hp=>?_
 obtain⟨R,hR⟩:∃R,zfc kids=R:=⟨_,rfl⟩
 rw[hR]
 unfold zfc at hR
 simp only at hR
 obtain⟨all,hal⟩:∃all,kids.flatMap mems=all:=⟨_,rfl⟩
 rw[hal]at hR hk
 unfold zl6
 simp
 refine fQ [.t 4] ?_
 simp
 refine fK zaa hp (fun x:Nat × List Typ=>x.1<=kids.length/\x.2++(kids.drop x.1).flatMap mems=all) (fun x=>[(5,.c (.d (.int .i64 x.1))),(4,.c (.msl 4 1 0 x.2.length)),(2,.c (.ptr 0 0)),(0,.c (.d (.sl false 4 (kids.map Typ.enc))))]) (fun x=>[bx4,arrT x.2]) (fun x=>kids.length-x.1) (0,[]) [0,1] ⟨by simp,by simpa using hal⟩ (by simp) fun⟨j,l⟩ ⟨h1,h2⟩=>?_
 unfold zjD
 simp only at h1 h2
 simp
 apply gI<;>intro h
 ·have hj:j<kids.length:=by simpa using h
  obtain⟨x,hx⟩:∃x,kids[j]=x:=⟨_,rfl⟩
  have hg:kids[j]?=some x:=by rw[aA hj,hx]
  rw[aG hj,hx,flatMap_cons,<-append_assoc]at h2
  have hll:=dL length h2
  rw[aX,aX]at hll
  by_cases k7:x.kind=7
  ·have hm:mems x=x.kids:=by unfold mems;rw[aC k7]
   rw[hm]at h2 hll
   simp[hj,hx,hg,k7]
   refine⟨by omega,?_⟩
   refine fD (j+1,l++x.kids) [0,2] ⟨by simp only;omega,h2⟩ (by simp only;omega) ?_
   simp
   exact⟨wI,zcr l⟩
  ·have hm:mems x=[x]:=by unfold mems;rw[aB k7]
   rw[hm]at h2 hll
   simp only[length_singleton]at hll
   simp[hj,hx,hg,k7]
   refine⟨by omega,?_⟩
   refine fD (j+1,l++[x]) [0,2] ⟨by simp only;omega,h2⟩ (by simp only;omega) ?_
   simp
   exact⟨wI,zcr l⟩
 ·have hj:j=kids.length:=by simp at h;omega
  subst hj
  rw[aO,flatMap_nil,bL]at h2
  subst h2
  simp
  refine fQ [.c 2 3] ?_
  simp
  refine fK zaa hp (fun x:Nat × List Typ=>x.1<=6/\x.2.length<=x.1*l.length/\zb4 l (zi2 x.1) x.2=zb4 l [0,1,2,3,4,5] []) (fun x=>uniT l x.1) (fun x=>uniB l x.2) (fun x=>6-x.1) (0,[]) [0,1,2,3] ⟨by simp,by simp,rfl⟩ (by simp) fun⟨t,ks⟩ ⟨i1,i2,i3⟩=>?_
  unfold zjE
  simp only at i1 i2 i3
  simp
  have hmul:t*l.length<=6*1000000:=Nat.mul_le_mul i1 hk
  have htl:=zoG t l false ks
  apply gI<;>intro h
  ·have ht:t<6:=by simp at h;omega
   rw[ztC ht,zb4]at i3
   refine zFu hp l hk t ht ks (by omega) _ rfl (ms:=[0,1,2,3]) (by simp) (fun hf T M n t2 t3 m0 m3=>?_) (fun hf T t7 t6 t4 t2=>?_)
   ·rw[aB (by rw[hf];simp)]at i3
    rw[<-i3]at hR
    simp at hR
    subst hR
    simp[t2,t3,m0,m3,zhY]
    exact aF (by simp)
   ·rw[aC hf]at i3
    simp[t7]
    refine fD (t+1,(tagR t l false ks).1.2) [0,1,2,3] ⟨by simp only;omega,by simp only;rw[ay];omega,i3⟩ (by simp only;omega) ?_
    simp[t7,t6,t4,t2]
    exact wI
  ·have ht:t=6:=by simp at h;omega
   subst ht
   rw[show zi2 6=[]from rfl,zb4]at i3
   rw[<-i3]at hR
   simp only[if_true]at hR
   have z4:take ks.length (List.map Typ.enc ks)=List.map Typ.enc ks:=aF (by simp)
   match ks,i2,hR,z4 with
   |[],i2,hR,z4=>
    simp at hR
    subst hR
    simp
    exact⟨by decide,by rw[zhY];rfl⟩
   |[x],i2,hR,z4=>
    simp at hR
    subst hR
    simp
    rw[Typ.enc_eq];try rfl
   |x::y::l2,i2,hR,z4=>
    simp at hR
    subst hR
    have h1:¬((l2.length:Int)+1+1=1):=by omega
    have h2:¬(l2.length+1+1=1):=by omega
    have h3:(0:Int)<(l2.length:Int)+1+1:=by omega
    simp[h1,h2,h3]
    exact⟨by decide,by rw[zhY,aF (by simp)];rfl⟩
mutual
def fewT:Typ->Prop
 |.mk _ _ _ l=>l.length<=200/\zb7 l
def zb7:List Typ->Prop
 |[]=>True
 |t::l=>fewT t/\zb7 l
end
mutual
def ziu:∀(t:Typ) (m:Int),m<=201->zbo t m<m->fewT t
 |.mk k n s l,m,h1,h2=>by
  rw[zbo]at h2
  have:=zr5 l m 1 h1 (by omega) h2
  rw[fewT]
  exact⟨by omega,this.2⟩
def zr5:∀(l:List Typ) (m n:Int),m<=201->1<=n->zbD l m n<m->n+l.length<=zbD l m n/\zb7 l
 |[],m,n,_,_,h=>by rw[zbD]at*;exact⟨by simp,trivial⟩
 | t::l,m,n,h1,h2,h3=>by
  have hle:=zkS t (m-n)
  rw[zbD]at h3⊢
  split
  ·rename_i q
   rw[aC q]at h3
   have i:=zr5 l m (n+zbo t (m-n)) h1 (by omega) h3
   have hle2:=zjk l m (n+zbo t (m-n)) (by omega)
   rw[length_cons]
   exact⟨by omega,ziu t (m-n) (by omega) (by omega),i.2⟩
  ·rename_i q
   rw[aB q]at h3;omega
end
def zg7:∀l:List Typ,zb7 l↔∀x,x∈l->fewT x
 |[]=>by simp[zb7]
 |t::l=>by simp[zb7,zg7 l]
def ziv(t:Typ):fewT t↔t.kids.length<=200/\∀x,x∈t.kids->fewT x:=by cases t;rw[fewT,zg7];try rfl
def zoV(tag:Int):∀(l:List Typ) (had:Bool) (ks:List Typ),(tagR tag l had ks).1.2.length<=ks.length+(if had=true then 0 else 1)
 |[],had,ks=>by simp[tagR]
 | x::l,had,ks=>by
  have h:(if had=true then ks else ks++[x]).length<=ks.length+(if had=true then 0 else 1):=by cases had<;>simp
  rw[tagR]
  by_cases h0:x.kind=0
  ·rw[aC h0];simp
  rw[aB h0]
  by_cases h1:zaj x≠tag
  ·rw[aC h1]
   exact zoV tag l had ks
  rw[aB h1]
  simp only
  generalize (if had=true then ks else ks++[x])=k2 at*
  split
  ·have:=zoV tag l true k2
   simp only[if_true]at this
   omega
  ·exact h
def zoW(tag:Int):∀(l:List Typ) (had:Bool) (ks:List Typ) (y:Typ),y∈(tagR tag l had ks).1.2->y∈ks\/(y∈l/\zaj y=tag)
 |[],had,ks,y,h=>by simp[tagR]at h;exact .inl h
 | x::l,had,ks,y,h=>by
  have h2:∀z,z∈(if had=true then ks else ks++[x])->z∈ks\/z=x:=fun z hz=>by cases had<;>simp at hz<;>simp[hz]
  rw[tagR]at h
  by_cases h0:x.kind=0
  ·rw[aC h0]at h;exact .inl h
  rw[aB h0]at h
  by_cases h1:zaj x≠tag
  ·rw[aC h1]at h
   rcases zoW tag l had ks y h with q|⟨q,r⟩
   ·exact .inl q
   ·exact .inr ⟨by simp[q],r⟩
  rw[aB h1]at h
  have hx:zaj x=tag:=bB h1
  simp only at h
  generalize (if had=true then ks else ks++[x])=k2 at*
  have fin:y∈k2->y∈ks\/(y∈x::l/\zaj y=tag):=fun hy=>by
   rcases h2 y hy with q|rfl
   ·exact .inl q
   ·exact .inr ⟨by simp,hx⟩
  split at h
  ·rcases zoW tag l true k2 y h with q|⟨q,r⟩
   ·exact fin q
   ·exact .inr ⟨by simp[q],r⟩
  ·exact fin h
def zmo(all:List Typ):∀(l:List Int) (ks:List Typ),(zb4 all l ks).1.length<=ks.length+l.length
 |[],ks=>by simp[zb4]
 | t::l,ks=>by
  have h1:=zoV t all false ks
  simp only[ae,if_false]at h1
  rw[zb4,length_cons]
  split
  ·have:=zmo all l (tagR t all false ks).1.2
   omega
  ·simp only;omega
def zjd(all:List Typ):∀(l:List Int) (ks:List Typ) (y:Typ),y∈(zb4 all l ks).1->y∈ks\/(y∈all/\zaj y∈l)
 |[],ks,y,h=>by simp[zb4]at h;exact .inl h
 | t::l,ks,y,h=>by
  rw[zb4]at h
  have fin:y∈(tagR t all false ks).1.2->y∈ks\/(y∈all/\zaj y∈t::l):=fun hy=>by
   rcases zoW t all false ks y hy with q|⟨q,r⟩
   ·exact .inl q
   ·exact .inr ⟨q,by simp[r]⟩
  split at h
  ·rcases zjd all l _ y h with q|⟨q,r⟩
   ·exact fin q
   ·exact .inr ⟨q,by simp[r]⟩
  ·exact fin h
def zAu(t:Typ):(mems (za2 t).1).length<=6:=by
 have one:∀x:Typ,x.kind≠7->(mems x).length<=6:=fun x h=>by unfold mems;rw[aB h];simp
 cases t with
 |mk k n s l=>
 rw[za2]
 split
 ·split
  ·unfold finR
   split
   ·refine one _ ?_
    unfold zdM
    split<;>simp[Typ.kind]
   split
   ·exact one _ (by simp[Typ.kind])
   ·unfold zfc
    have hl:=zmo ((zaI l).1.flatMap mems) [0,1,2,3,4,5] []
    have hm:=zjd ((zaI l).1.flatMap mems) [0,1,2,3,4,5] []
    simp only
    generalize zb4 ((zaI l).1.flatMap mems) [0,1,2,3,4,5] []=r at*
    have seven:∀l:List Typ,l.length<=6->(mems (.mk 7 (bs []) [] l)).length<=6:=fun l h=>by unfold mems;exact h
    split
    ·split
     ·rename_i x e
      have:=hm x (by rw[e];simp)
      refine one _ fun h7=>?_
      have h7:x.kind=7:=h7
      have hb:zaj x= -1:=by unfold zaj;rw[aC (by omega)]
      rw[hb]at this
      simp at this
     ·rename_i e
      exact seven _ (by simpa using hl)
    ·exact seven _ (by simpa using hl)
  ·exact one _ (by simp[noT,Typ.kind])
 ·split
  ·refine one _ ?_
   show k≠7
   omega
  ·exact one _ (by simp[noT,Typ.kind])
def zr6:∀l:List Typ,(zaI l).1.length<=l.length
 |[]=>by simp[zaI]
 |t::l=>by
  have:=zr6 l
  rw[zaI]
  split<;>simp;omega
def zpZ:∀l:List Typ,((zaI l).1.flatMap mems).length<=6*l.length
 |[]=>by simp[zaI]
 |t::l=>by
  have h1:=zpZ l
  have h2:=zAu t
  rw[zaI]
  split
  ·rw[flatMap_cons,aX,length_cons];omega
  ·simp
def zCB(t:Typ):za2 t=if 5<=t.kind/\t.kind<=7 then(if(zaI t.kids).2=true then finR t.kind t.names (zaI t.kids).1 else(noT,false))else if 0<=t.kind/\t.kind<=4 then(bT t.kind,true)else(noT,false):=by
 cases t;rw[za2];try rfl
def accN(a:List Typ)(l:List Typ):List Typ × Bool:=if(zaI l).2=true then(a++(zaI l).1,true)else([],false)
def zAv(a:List Typ)(t:Typ)(l:List Typ):accN a (t::l)=if(za2 t).2=true then accN (a++[(za2 t).1]) l else([],false):=by
 unfold accN
 rw[zaI]
 by_cases h:(za2 t).2=true
 ·rw[aC h,aC h]
  by_cases h2:(zaI l).2=true
  ·simp[h2]
  ·simp[h2]
 ·rw[aB h,aB h];simp
@[simp] theorem Typ.er_map(t:Typ):t.enc.map D.er=t.enc:=by rw[Typ.enc_eq];try rfl
def zcN(k:Int):(bT k).enc=[.int .i64 k,.str (bs []),.sl false 1 [],.sl false 4 []]:=by rw[Typ.enc_eq];try rfl
theorem zaU:noT.enc=[.int .i64 0,.str (bs []),.sl false 1 [],.sl false 4 []]:=rfl
abbrev nrmT(t:Typ)(j n:Nat):List (Nat × AV):=[(5,.c (.d (.int .i64 j))),(4,.c (.msl 4 1 0 n)),(2,.c (.ptr 0 0)),(1,.c (.d (.rp t.enc 0)))]
theorem zh6{c:Ctx}(hp:c.pure)(t:Typ)(hl:t.kids.length<=200)(ih:∀e,e∈t.kids->PCall Pg 130 [.agg e.enc] (.tup [.agg (za2 e).1.enc,.one (.bool (za2 e).2)])){Q:Exit->St->Prop}{S:St}{g}{ms:List Nat}
  (h0:Match ms S (nrmT t 0 0) [bx4,arrT []])
  (hN:(zaI t.kids).2=false->∀T M n,Abs.look T 2=.c (.ptr 0 0)->Abs.look T 3=.c (.d (.bool false))->M 0=bx4->Q .ret ⟨T,M,n⟩)
  (hQ:(zaI t.kids).2=true->∀T,Abs.look T 4=.c (.msl 4 1 0 (zaI t.kids).1.length)->Abs.look T 2=.c (.ptr 0 0)->Abs.look T 1=.c (.d (.rp t.enc 0))->Q (.exit 1) ⟨T,hpOf [bx4,arrT (zaI t.kids).1],2⟩):lw_ Pg c zhp Q g S:=by
 have hA:accN [] t.kids=if(zaI t.kids).2=true then((zaI t.kids).1,true)else([],false):=rfl
 have hN:(accN [] t.kids).2=false->∀T M n,Abs.look T 2=.c (.ptr 0 0)->Abs.look T 3=.c (.d (.bool false))->M 0=bx4->Q .ret ⟨T,M,n⟩:=fun h=>hN (by
  rw[hA]at h
  cases e:(zaI t.kids).2 with
  |false=>rfl
  |true=>rw[aC e]at h;cases h)
 have hQ:(accN [] t.kids).2=true->∀T,Abs.look T 4=.c (.msl 4 1 0 (accN [] t.kids).1.length)->Abs.look T 2=.c (.ptr 0 0)->Abs.look T 1=.c (.d (.rp t.enc 0))->Q (.exit 1) ⟨T,hpOf [bx4,arrT (accN [] t.kids).1],2⟩:=fun h=>by
  rw[hA]at h⊢
  cases e:(zaI t.kids).2 with
  |false=>rw[e]at h;cases h
  |true=>rw[aC rfl];exact hQ e
 obtain⟨F0,hF⟩:∃F0,accN [] t.kids=F0:=⟨_,rfl⟩
 rw[hF]at hN hQ
 refine fK zaa hp (fun x:Nat × List Typ=>x.1<=t.kids.length/\x.2.length<=x.1/\accN x.2 (t.kids.drop x.1)=F0) (fun x=>nrmT t x.1 x.2.length) (fun x=>[bx4,arrT x.2]) (fun x=>t.kids.length-x.1) (0,[]) ms ⟨by simp,by simp,by simpa using hF⟩ h0 fun⟨j,a⟩ ⟨h1,h2,h3⟩=>?_
 unfold zhp
 simp only at h1 h2 h3
 simp
 apply gI<;>intro h
 ·have hj:j<t.kids.length:=by simpa using h
  rw[aG hj,zAv]at h3
  obtain⟨x,hx⟩:∃x,t.kids[j]=x:=⟨_,rfl⟩
  have hm:=aS hj
  rw[hx]at h3 hm
  simp[hj,hx]
  refine gN (ih x hm) ?_
  simp
  by_cases q:(za2 x).2=true
  ·rw[aC q]at h3
   simp[q]
   refine⟨by omega,?_⟩
   refine fD (j+1,a++[(za2 x).1]) [0,3] ⟨by simp only;omega,by simp;omega,h3⟩ (by simp only;omega) ?_
   simp
   exact⟨wI,zcr a⟩
  ·rw[aB q]at h3
   subst h3
   simp[q]
   exact hN rfl _ _ _ (by simp) (by simp) (by simp)
 ·have hj:j=t.kids.length:=by simp at h;omega
  subst hj
  rw[aO]at h3
  have e:accN a []=(a,true):=by unfold accN;simp[zaI]
  rw[e]at h3
  subst h3
  exact hQ rfl _ (by simp) (by simp) (by simp)
def zoX(t:Typ)(hl:t.kids.length<=200)(ih:∀e,e∈t.kids->PCall Pg 130 [.agg e.enc] (.tup [.agg (za2 e).1.enc,.one (.bool (za2 e).2)])):
  PCall Pg 130 [.agg t.enc] (.tup [.agg (za2 t).1.enc,.one (.bool (za2 t).2)]):=by
 refine zyh (by simp) fun o c hN hp=>?_
 obtain⟨R,hR⟩:∃R,za2 t=R:=⟨_,rfl⟩
 rw[hR]
 rw[zCB]at hR
 unfold zn1
 by_cases k1:0<=t.kind/\t.kind<=4
 ·rw[aB (by omega),aC k1]at hR
  subst hR
  have hc:t.kind=0\/t.kind=1\/t.kind=2\/t.kind=3\/t.kind=4:=by omega
  rcases hc with k|k|k|k|k<;>simp[k,zcN]
 by_cases k2:5<=t.kind/\t.kind<=7
 rotate_left
 ·rw[aB k2,aB k1]at hR
  subst hR
  have a0:¬t.kind=0:=by omega
  have a1:¬t.kind=1:=by omega
  have a2:¬t.kind=2:=by omega
  have a3:¬t.kind=3:=by omega
  have a4:¬t.kind=4:=by omega
  have a5:¬t.kind=5:=by omega
  have a6:¬t.kind=6:=by omega
  have a7:¬t.kind=7:=by omega
  simp[a0,a1,a2,a3,a4,a5,a6,a7,zaU]
 rw[aC k2]at hR
 have hnl:=zr6 t.kids
 have hnm:=zpZ t.kids
 have hk:∀K:Int,t.kind=K->(if(zaI t.kids).2=true then finR K t.names (zaI t.kids).1 else(noT,false))=R:=fun K e=>by rw[<-e];exact hR
 have a0:¬t.kind=0:=by omega
 have a1:¬t.kind=1:=by omega
 have a2:¬t.kind=2:=by omega
 have a3:¬t.kind=3:=by omega
 have a4:¬t.kind=4:=by omega
 have hc:t.kind=5\/t.kind=6\/t.kind=7:=by omega
 rcases hc with k|k|k
 ·have hR:=hk 5 k
  simp[k]
  refine fQ [.t 4] ?_
  simp
  refine zh6 hp t hl ih (ms:=[0,1]) (by simp) (fun hf T M n t2 t3 m0=>?_) (fun hf T t4 t2 t1=>?_)
  ·rw[aB (by rw[hf];simp)]at hR
   subst hR
   simp[t2,t3,m0,zaU]
  ·rw[aC hf]at hR
   generalize (zaI t.kids).1=l at*
   simp[t1,k]
   refine fP [1] ?_
   have z:take l.length (List.map Typ.enc l)=List.map Typ.enc l:=aF (by simp)
   simp[zah,t4,t1,zcr,z]
   refine gN (zmF _ _) ?_
   rw[show zdM t.names l=R by rw[<-hR];rfl]
   simp[zah,t2]
 ·have hR:=hk 6 k
  simp[k]
  refine fQ [.t 4] ?_
  simp
  refine zh6 hp t hl ih (ms:=[0,1]) (by simp) (fun hf T M n t2 t3 m0=>?_) (fun hf T t4 t2 t1=>?_)
  ·rw[aB (by rw[hf];simp)]at hR
   subst hR
   simp[t2,t3,m0,zaU]
  ·rw[aC hf]at hR
   generalize (zaI t.kids).1=l at*
   have hR:(Typ.mk 6 (bs []) [] l,decide (l.length=2))=R:=by rw[<-hR];try rfl
   subst hR
   have z:take l.length (List.map Typ.enc l)=List.map Typ.enc l:=aF (by simp)
   have hd:decide ((l.length:Int)=2)=decide (l.length=2):=by
    by_cases h:l.length=2
    ·simp[h]
    ·have h':¬(l.length:Int)=2:=by omega
     simp[h,h']
   simp[t1,k,t4,t2]
   exact⟨by rw[z,Typ.enc_eq];rfl,by omega⟩
 ·have hR:=hk 7 k
  simp[k]
  refine fQ [.t 4] ?_
  simp
  refine zh6 hp t hl ih (ms:=[0,1]) (by simp) (fun hf T M n t2 t3 m0=>?_) (fun hf T t4 t2 t1=>?_)
  ·rw[aB (by rw[hf];simp)]at hR
   subst hR
   simp[t2,t3,m0,zaU]
  ·rw[aC hf]at hR
   have hu:=zoH (zaI t.kids).1 (by omega) (by omega)
   generalize (zaI t.kids).1=l at*
   have z:take l.length (List.map Typ.enc l)=List.map Typ.enc l:=aF (by simp)
   simp[t1,k]
   refine fP [1] ?_
   simp[zah,t4,t1,zcr,z]
   refine gN hu ?_
   rw[show zfc l=R by rw[<-hR];rfl]
   simp[zah,t2]
mutual
def zjU:∀t:Typ,fewT t->PCall Pg 130 [.agg t.enc] (.tup [.agg (za2 t).1.enc,.one (.bool (za2 t).2)])
 |.mk k n s l,h=>by
  rw[fewT]at h
  exact zoX (.mk k n s l) h.1 (fun e he=>ziw l h.2 e he)
def ziw:∀l:List Typ,zb7 l->∀e,e∈l->PCall Pg 130 [.agg e.enc] (.tup [.agg (za2 e).1.enc,.one (.bool (za2 e).2)])
 |[],_,e,h=>by cases h
 |d::l,hf,e,h=>by
  rw[zb7]at hf
  cases h with
  |head=>exact zjU d hf.1
  |tail _ h=>exact ziw l hf.2 e h
end
def zeJ(t:Typ):PCall Pg 76 [.agg t.enc] (.tup [.agg (za7 t).1.enc,.one (.int .i64 (za7 t).2)]):=by
 refine zyg (by simp) fun o c hN hp=>?_
 obtain⟨R,hR⟩:∃R,za7 t=R:=⟨_,rfl⟩
 rw[hR]
 unfold za7 at hR
 unfold zn0
 simp
 refine gN (zg5 t) ?_
 by_cases h1:16<zby 17 t
 ·rw[aC (.inl h1)]at hR
  subst hR
  simp[h1,zaU]
 simp[h1]
 refine gN (zru t) ?_
 by_cases h2:200<zbo t 201
 ·rw[aC (.inr h2)]at hR
  subst hR
  simp[h2,zaU]
 rw[aB (by omega)]at hR
 have hf:=ziu t 201 (by omega) (by omega)
 simp[h2]
 refine gN (zjU t hf) ?_
 by_cases h3:(za2 t).2=true
 ·rw[aC h3]at hR
  subst hR
  simp[h3]
 ·rw[aB h3]at hR
  subst hR
  simp[h3,zaU]
def zdk(t:Typ):PCall Pg 50 [.agg t.enc] (.one (.bool (isNR t))):=by
 refine ztG (by simp) fun o c hN hp=>?_
 unfold zlt isNR
 simp
 refine gN (zeJ t) ?_
 generalize za7 t=R
 simp
 refine gN (zh0 _ _) ?_
 by_cases h:R.2=0
 ·simp[h]
 ·simp[h]
mutual
def zg4:∀(a b:Typ),zaV a b=true↔a=b
 |.mk k n s l,.mk k' n' s' l'=>by
  rw[zaV,aD,aD,aD,aI,aI,aI,zfW,Typ.mk.injEq]
  exact Iff.rfl
def zfW:∀(a b:List Typ),zbF a b=true↔a=b
 |[],[]=>by simp[zbF]
 |[],_::_=>by simp[zbF]
 |_::_,[]=>by simp[zbF]
 |a::l,b::k=>by
  simp only[zbF,aD,dV]
  rw[zg4 a b,zfW l k]
end
mutual
def wfT:Typ->Prop
 |.mk k n s l=>n=bs []/\wfTs l/\((0<=k/\k<=4/\s=[]/\l=[])\/(k=5/\s.length=l.length/\s.length<=16/\∀x,x∈s->zbg x=true)\/(k=6/\s=[]/\l.length=2)\/(k=7/\s=[]/\l.length<=6/\∀x,x∈l->1<=x.kind/\x.kind<=6))
def wfTs:List Typ->Prop
 |[]=>True
 |t::l=>wfT t/\wfTs l
end
def zdy:∀l:List Typ,wfTs l↔∀x,x∈l->wfT x
 |[]=>by simp[wfTs]
 |t::l=>by simp[wfTs,zdy l]
def zaQ(t:Typ):wfT t↔t.name=bs []/\(∀x,x∈t.kids->wfT x)/\((0<=t.kind/\t.kind<=4/\t.names=[]/\t.kids=[])\/(t.kind=5/\t.names.length=t.kids.length/\t.names.length<=16/\∀x,x∈t.names->zbg x=true)\/(t.kind=6/\t.names=[]/\t.kids.length=2)\/(t.kind=7/\t.names=[]/\t.kids.length<=6/\∀x,x∈t.kids->1<=x.kind/\x.kind<=6)):=by
 cases t;rw[wfT,zdy];try rfl
def zcp(k:Int)(h0:0<=k)(h4:k<=4):wfT (bT k):=(zaQ _).2 ⟨rfl,fun x h=>(by cases h),.inl ⟨h0,h4,rfl,rfl⟩⟩
def zbP:wfT noT:=zcp 0 (by omega) (by omega)
def zrf:∀(ss:List fC) (ts:List Typ) (ns:List fC) (ks:List Typ),ss.length=ts.length->ns.length=ks.length->(∀x,x∈ns->zbg x=true)->(recR ss ts ns ks).2=true->
  (recR ss ts ns ks).1.1.length=(recR ss ts ns ks).1.2.length/\(recR ss ts ns ks).1.1.length=ns.length+ss.length/\(∀x,x∈(recR ss ts ns ks).1.1->zbg x=true)/\∀x,x∈(recR ss ts ns ks).1.2->x∈ks\/x∈ts
 |[],ts,ns,ks,h0,h1,h2,h=>by
  cases ts with
  |nil=>rw[recR];exact⟨h1,rfl,h2,fun x hx=>.inl hx⟩;all_goals (intros;contradiction)
  |cons _ _=>simp at h0
 |s::ss,[],ns,ks,h0,h1,h2,h=>by simp at h0
 | s ::ss,t::ts,ns,ks,h0,h1,h2,h=>by
  have hp:=zro s ns
  rw[recR]at h⊢
  by_cases q:zbg s=false\/ns[posR s ns]?=some s
  ·rw[aC q]at h;cases h
  rw[aB q]at h⊢
  have hs:zbg s=true:=by
   cases e:zbg s with
   |true=>rfl
   |false=>exact absurd (.inl e) q
  have i:=zrf ss ts (ns.take (posR s ns)++s::ns.drop (posR s ns)) (ks.take (posR s ns)++t::ks.drop (posR s ns)) (by simpa using h0) (by simp;omega) (fun x hx=>by
   rcases aQ.1 hx with hx|hx
   ·exact h2 x (bW hx)
   ·rcases aM.1 hx with rfl|hx
    ·exact hs
    ·exact h2 x (dM hx)) h
  refine⟨i.1,?_,i.2.2.1,fun x hx=>?_⟩
  ·rw[i.2.1];simp;omega
  ·rcases i.2.2.2 x hx with hx|hx
   ·rcases aQ.1 hx with hx|hx
    ·exact .inl (bW hx)
    ·rcases aM.1 hx with rfl|hx
     ·exact .inr (by simp)
     ·exact .inl (dM hx)
   ·exact .inr (by simp[hx])
def zEv{l:List Typ}(h:∀x,x∈l->wfT x):∀y,y∈l.flatMap mems->wfT y:=fun y hy=>by
 obtain⟨x,hx,hy⟩:=eO.1 hy
 unfold mems at hy
 split at hy
 ·exact((zaQ x).1 (h x hx)).2.1 y hy
 ·simp at hy;subst hy;exact h y hx
def zCs{y:Typ}(h:zaj y∈([0,1,2,3,4,5]:List Int)):1<=y.kind/\y.kind<=6:=by
 unfold zaj at h
 split at h
 ·simp at h
 ·omega
def zFC(k:Int)(s:List fC)(l:List Typ)(hl:∀x,x∈l->wfT x)(hk:5<=k/\k<=7)(h:(finR k s l).2=true):wfT (finR k s l).1:=by
 unfold finR at h⊢
 by_cases k5:k=5
 ·rw[aC k5]at h⊢
  unfold zdM at h⊢
  by_cases q:s.length≠l.length\/16<s.length
  ·rw[aC q]at h;cases h
  rw[aB q]at h⊢
  have i:=zrf s l [] [] (by omega) rfl (by simp) h
  refine(zaQ _).2 ⟨rfl,fun x hx=>?_,.inr (.inl ⟨rfl,i.1,?_,i.2.2.1⟩)⟩
  ·rcases i.2.2.2 x hx with hx|hx
   ·cases hx
   ·exact hl x hx
  ·show(recR s l [] []).1.1.length<=16
   rw[i.2.1];simp;omega
 rw[aB k5]at h⊢
 by_cases k6:k=6
 ·rw[aC k6]at h⊢
  simp only[aI]at h
  exact(zaQ _).2 ⟨rfl,hl,.inr (.inr (.inl ⟨rfl,rfl,h⟩))⟩
 rw[aB k6]at h⊢
 unfold zfc at h⊢
 have hm:=zjd (l.flatMap mems) [0,1,2,3,4,5] []
 have hlen:=zmo (l.flatMap mems) [0,1,2,3,4,5] []
 simp only at h⊢
 generalize zb4 (l.flatMap mems) [0,1,2,3,4,5] []=r at*
 have hw:∀y,y∈r.1->wfT y/\1<=y.kind/\y.kind<=6:=fun y hy=>by
  rcases hm y hy with q|⟨q1,q2⟩
  ·cases q
  ·exact⟨zEv hl y q1,zCs q2⟩
 have seven:∀L:List Typ,L.length<=6->(∀y,y∈L->wfT y/\1<=y.kind/\y.kind<=6)->wfT (.mk 7 (bs []) [] L):=fun L hn hL=>(zaQ _).2 ⟨rfl,fun x hx=>(hL x hx).1,.inr (.inr (.inr ⟨rfl,rfl,hn,fun x hx=>(hL x hx).2⟩))⟩
 by_cases q:r.2=true
 ·rw[aC q]at h⊢
  split
  ·rename_i x e
   exact(hw x (by rw[e];simp)).1
  ·exact seven _ (by simpa using hlen) hw
 ·rw[aB q]at h;cases h
mutual
def zrg:∀t:Typ,(za2 t).2=true->wfT (za2 t).1
 | .mk k n s l,h=>by
  rw[za2]at h⊢
  by_cases q:5<=k/\k<=7
  ·rw[aC q]at h⊢
   by_cases q2:(zaI l).2=true
   ·rw[aC q2]at h⊢
    exact zFC k s _ (zt5 l q2) q h
   ·rw[aB q2]at h;cases h
  ·rw[aB q]at h⊢
   by_cases q2:0<=k/\k<=4
   ·rw[aC q2];exact zcp k q2.1 q2.2
   ·rw[aB q2]at h;cases h
def zt5:∀l:List Typ,(zaI l).2=true->∀x,x∈(zaI l).1->wfT x
 |[],_,x,hx=>by rw[zaI]at hx;cases hx
 | t::l,h,x,hx=>by
  rw[zaI]at h hx
  by_cases q:(za2 t).2=true
  ·rw[aC q]at h hx
   rcases aM.1 hx with rfl|hx
   ·exact zrg t q
   ·exact zt5 l h x hx
  ·rw[aB q]at h;cases h
end
def zjQ(t:Typ):wfT (za7 t).1:=by
 unfold za7
 split
 ·exact zbP
 split
 ·rename_i h;exact zrg t h
 ·exact zbP
def zfX{t:Typ}(h:(za7 t).2=0):(za2 t).2=true/\zbo t 201<=200/\zby 17 t<=16/\(za7 t).1=(za2 t).1:=by
 unfold za7 at h⊢
 by_cases q:16<zby 17 t\/200<zbo t 201
 ·rw[aC q]at h;cases h
 rw[aB q]at h⊢
 by_cases q2:(za2 t).2=true
 ·rw[aC q2];exact⟨q2,by omega,by omega,rfl⟩
 ·rw[aB q2]at h;cases h
def zil{t:Typ}:isNR t=true↔(za7 t).2=0/\(za7 t).1=t:=by
 unfold isNR;rw[aD,aI,zg4]
def zd6{t:Typ}(h:isNR t=true):wfT t:=by
 have h:=zil.1 h
 rw[<-h.2];exact zjQ t
def zCt{t:Typ}(h:isNR t=true):fewT t/\zbo t 201<=200:=by
 have h:=zfX (zil.1 h).1
 exact⟨ziu t 201 (by omega) (by omega),h.2.1⟩
mutual
def cntT:Typ->Nat
 |.mk _ _ _ l=>zay l+1
def zay:List Typ->Nat
 |[]=>0
 |t::l=>cntT t+zay l
end
mutual
def zoP:∀(t:Typ) (m:Int),zbo t m<m->zbo t m=cntT t
 |.mk k n s l,m,h=>by
  rw[zbo]at h⊢
  have:=zrZ l m 1 (by omega) h
  rw[cntT];omega
def zrZ:∀(l:List Typ) (m n:Int),1<=n->zbD l m n<m->zbD l m n=n+zay l
 |[],m,n,h1,h=>by rw[zbD,zay];omega
 | t::l,m,n,h1,h=>by
  have hle:=zkS t (m-n)
  rw[zbD]at h⊢
  by_cases q:n<m
  ·rw[aC q]at h⊢
   have hle2:=zjk l m (n+zbo t (m-n)) (by omega)
   have i1:=zrZ l m (n+zbo t (m-n)) (by omega) h
   have i2:=zoP t (m-n) (by omega)
   rw[zay];omega
  ·rw[aB q]at h;omega
end
def zEw(t:Typ):1<=cntT t:=by cases t;rw[cntT];omega
def zmi:∀{l:List Typ} {x:Typ},x∈l->cntT x<=zay l
 |t::l,x,h=>by
  rw[zay]
  rcases aM.1 h with rfl|h
  ·omega
  ·have:=zmi h;omega
def zim{t:Typ}(h:isNR t=true):cntT t<=200:=by
 have h:=(zCt h).2
 have:=zoP t 201 (by omega)
 omega
def zmg{s:fC}(h:zbg s=true):s.size<=32:=by
 unfold zbg at h
 split at h
 ·cases h
 ·simp at h;exact h.1
@[simp] theorem zeG(l:List Nat):(bs l).size=l.length:=by
 show(bs l).data.size=_
 simp[bs]
def zrW(k:Int)(n:fC)(s:List fC)(l:List Typ)(br:Bool):zcL (.mk k n s l) br=
  if k=0 then bs [97,110,121]else if k=1 then bs [110,117,108,108]else if k=2 then bs [98,111,111,108]else if k=3 then bs [105,110,116]else if k=4 then bs [115,116,114]
  else if k=5 then bs [123]++zdf s l (bs []) 0++bs [125]
  else if k=6 then(match l with
   |a::b::_=>if br=true then bs [40]++(zcL a true++bs [32,45,62,32]++zcL b false)++bs [41]else zcL a true++bs [32,45,62,32]++zcL b false
   |_=>bs [])
  else zgW l (bs []) 0:=by rw[zcL.eq_def];try rfl
mutual
def zdj:∀(t:Typ) (br:Bool),wfT t->(zcL t br).size+60<=100*cntT t
 | .mk k n s l,br,h=>by
  have hw:=h
  rw[wfT,zdy]at h
  obtain⟨_,hl,hc⟩:=h
  have hl':=(zdy l).2 hl
  rw[zrW,cntT]
  split
  ·simp;omega
  split
  ·simp;omega
  split
  ·simp;omega
  split
  ·simp;omega
  split
  ·simp;omega
  split
  ·rename_i k5
   subst k5
   have hc:s.length=l.length/\s.length<=16/\∀x,x∈s->zbg x=true:=by
    rcases hc with⟨_,q,_⟩|⟨_,q⟩|⟨q,_⟩|⟨q,_⟩
    ·omega
    ·exact q
    ·omega
    ·omega
   have:=zjv s l (bs []) 0 hl' hc.2.2
   simp at this⊢
   omega
  split
  ·rename_i k6
   subst k6
   have hc:l.length=2:=by
    rcases hc with⟨_,q,_⟩|⟨q,_⟩|⟨_,_,q⟩|⟨q,_⟩
    ·omega
    ·omega
    ·exact q
    ·omega
   match l,hc,hl' with
   |[a,b],_,hl'=>
    rw[wfTs,wfTs]at hl'
    have ha:=zdj a true hl'.1
    have hb:=zdj b false hl'.2.1
    simp only[zay]
    split
    ·simp;omega
    ·simp;omega
  ·have:=zrX l (bs []) 0 hl'
   simp at this
   omega
def zjv:∀(s:List fC) (l:List Typ) (out:fC) (i:Nat),wfTs l->(∀x,x∈s->zbg x=true)->(zdf s l out i).size<=out.size+100*zay l
 |[],l,out,i,h,hn=>by rw[zdf];omega;all_goals (intros;contradiction)
 |_::_,[],out,i,h,hn=>by rw[zdf];omega;all_goals (intros;contradiction)
 |s::ss,t::ts,out,i,h,hn=>by
  rw[wfTs]at h
  have h1:=zdj t false h.1
  have h3:=zmg (hn s (by simp))
  rw[zdf,zay]
  have h2:=zjv ss ts ((if 0<i then out++bs [44,32]else out)++s++bs [58,32]++zcL t false) (i+1) h.2 (fun x hx=>hn x (by simp[hx]))
  refine ak h2 ?_
  split<;>simp<;>omega
def zrX:∀(l:List Typ) (out:fC) (i:Nat),wfTs l->(zgW l out i).size<=out.size+100*zay l
 |[],out,i,h=>by rw[zgW];omega
 |t::ts,out,i,h=>by
  rw[wfTs]at h
  have h1:=zdj t true h.1
  rw[zgW,zay]
  have h2:=zrX ts ((if 0<i then out++bs [32,124,32]else out)++zcL t true) (i+1) h.2
  refine ak h2 ?_
  split<;>simp<;>omega
end
abbrev zif(e:Typ):Prop:=∀br:Bool,PCall Pg 94 [.agg e.enc,.one (.bool br)] (.one (.str (zcL e br)))
def zCk{c:Ctx}(hp:c.pure)(t:Typ)(hw:wfTs t.kids)(hn:t.names.length=t.kids.length)(hnm:∀x,x∈t.names->zbg x=true)(hc:zay t.kids<=1000)(hl:t.names.length<=1000)(ih:∀e,e∈t.kids->zif e)(R:fC)(hR:zdf t.names t.kids (bs []) 0=R){Q:Exit->St->Prop}{S:St}{g}{ms:List Nat}
  (h0:Match ms S [(6,.c (.d (.int .i64 0))),(5,.c (.d (.str (bs [])))),(2,.c (.d (.rp t.enc 0)))] [])
  (hQ:∀T M n,Abs.look T 5=.c (.d (.str R))->Q (.exit 1) ⟨T,M,n⟩):lw_ Pg c zhq Q g S:=by
 refine fK zaa hp (fun x:Nat × fC=>x.1<=t.names.length/\x.2.size+100*zay (t.kids.drop x.1)<=100*zay t.kids/\zdf (t.names.drop x.1) (t.kids.drop x.1) x.2 x.1=R) (fun x=>[(6,.c (.d (.int .i64 x.1))),(5,.c (.d (.str x.2))),(2,.c (.d (.rp t.enc 0)))]) (fun _=>[]) (fun x=>t.names.length-x.1) (0,bs []) ms ⟨by simp,by simp,by simpa using hR⟩ h0 fun⟨j,out⟩ ⟨h1,h2,h3⟩=>?_
 unfold zhq
 simp only at h1 h2 h3
 simp
 apply gI<;>intro h
 ·have hj:j<t.names.length:=by simpa using h
  have hj2:j<t.kids.length:=by omega
  rw[aG hj,aG hj2,zdf]at h3
  rw[aG hj2,zay]at h2
  have hnx:=zmg (hnm _ (aS hj))
  have hsx:=zdj t.kids[j] false ((zdy _).1 hw _ (aS hj2))
  have hix:=ih _ (aS hj2) false
  by_cases h0:j=0
  ·subst h0
   simp only[Nat.lt_irrefl,if_false]at h3
   simp[hj,hj2,zaf]
   refine⟨by omega,by omega,?_⟩
   refine gN hix ?_
   simp[zaf]
   refine⟨by omega,by decide,?_⟩
   refine fD (0+1,_) [] ⟨by simp only;omega,?_,h3⟩ (by simp only;omega) ?_
   ·simp only[ax,zeG,length_cons,length_nil];omega
   ·simp
    decide
  ·have h0':(0:Int)<j:=by omega
   have h0'':0<j:=by omega
   rw[aC h0'']at h3
   simp[h0',h0'',hj,hj2,zaf]
   refine⟨by omega,by omega,by omega,?_⟩
   refine gN hix ?_
   simp[zaf]
   refine⟨by omega,by decide,?_⟩
   refine fD (j+1,_) [] ⟨by simp only;omega,?_,h3⟩ (by simp only;omega) ?_
   ·simp;omega
   ·simp
    exact wI
 ·have hj:j=t.names.length:=by simp at h;omega
  subst hj
  rw[aO,zdf]at h3
  ·subst h3
   exact hQ _ _ _ (by simp)
  ·intros;contradiction
def zCl{c:Ctx}(hp:c.pure)(t:Typ)(hw:wfTs t.kids)(hc:zay t.kids<=1000)(hl:t.kids.length<=1000)(ih:∀e,e∈t.kids->zif e)(R:fC)(hR:zgW t.kids (bs []) 0=R){Q:Exit->St->Prop}{S:St}{g}{ms:List Nat}
  (h0:Match ms S [(7,.c (.d (.int .i64 0))),(5,.c (.d (.str (bs [])))),(2,.c (.d (.rp t.enc 0)))] [])
  (hQ:∀T M n,Abs.look T 5=.c (.d (.str R))->Q (.exit 3) ⟨T,M,n⟩):lw_ Pg c zhr Q g S:=by
 refine fK zaa hp (fun x:Nat × fC=>x.1<=t.kids.length/\x.2.size+100*zay (t.kids.drop x.1)<=100*zay t.kids/\zgW (t.kids.drop x.1) x.2 x.1=R) (fun x=>[(7,.c (.d (.int .i64 x.1))),(5,.c (.d (.str x.2))),(2,.c (.d (.rp t.enc 0)))]) (fun _=>[]) (fun x=>t.kids.length-x.1) (0,bs []) ms ⟨by simp,by simp,by simpa using hR⟩ h0 fun⟨j,out⟩ ⟨h1,h2,h3⟩=>?_
 unfold zhr
 simp only at h1 h2 h3
 simp
 apply gI<;>intro h
 ·have hj2:j<t.kids.length:=by simpa using h
  rw[aG hj2,zgW]at h3
  rw[aG hj2,zay]at h2
  have hsx:=zdj t.kids[j] true ((zdy _).1 hw _ (aS hj2))
  have hix:=ih _ (aS hj2) true
  by_cases h0:j=0
  ·subst h0
   simp only[Nat.lt_irrefl,if_false]at h3
   simp[hj2,zaf]
   refine gN hix ?_
   simp[zaf]
   refine⟨by omega,?_⟩
   refine fD (0+1,_) [] ⟨by simp only;omega,?_,h3⟩ (by simp only;omega) ?_
   ·simp only[ax,zeG,length_cons,length_nil];omega
   ·simp
    decide
  ·have h0':(0:Int)<j:=by omega
   have h0'':0<j:=by omega
   rw[aC h0'']at h3
   simp[h0',h0'',hj2,zaf]
   refine⟨by omega,?_⟩
   refine gN hix ?_
   simp[zaf]
   refine⟨by omega,?_⟩
   refine fD (j+1,_) [] ⟨by simp only;omega,?_,h3⟩ (by simp only;omega) ?_
   ·simp;omega
   ·simp
    exact wI
 ·have hj:j=t.kids.length:=by simp at h;omega
  subst hj
  rw[aO,zgW]at h3
  subst h3
  exact hQ _ _ _ (by simp)
def zCm(t:Typ)(hw:wfT t)(hc:cntT t<=1000)(ih:∀e,e∈t.kids->zif e):zif t:=by
 intro br
 refine zyj (by simp) fun o c hN hp=>?_
 obtain⟨R,hR⟩:∃R,zcL t br=R:=⟨_,rfl⟩
 rw[hR]
 have hwf:=(zaQ t).1 hw
 have hws:=(zdy t.kids).2 hwf.2.1
 have hcs:cntT t=zay t.kids+1:=by cases t;rw[cntT];try rfl
 have hd:=zrW t.kind t.name t.names t.kids br
 rw[show Typ.mk t.kind t.name t.names t.kids=t by cases t;rfl,hR]at hd
 have hll:∀l:List Typ,l.length<=zay l:=by
  intro l
  induction l with
  |nil=>simp
  |cons x l ih=>have:=zEw x;simp[zay];omega
 have hkl:=hll t.kids
 unfold zn3
 by_cases k0:t.kind=0
 ·simp[k0]at hd
  simp[k0,hd]
 by_cases k1:t.kind=1
 ·simp[k1]at hd
  simp[k1,hd]
 by_cases k2:t.kind=2
 ·simp[k2]at hd
  simp[k2,hd]
 by_cases k3:t.kind=3
 ·simp[k3]at hd
  simp[k3,hd]
 by_cases k4:t.kind=4
 ·simp[k4]at hd
  simp[k4,hd]
 by_cases k5:t.kind=5
 ·simp[k5]at hd
  have hn:t.names.length=t.kids.length/\t.names.length<=16/\∀x,x∈t.names->zbg x=true:=by
   rcases hwf.2.2 with⟨_,q,_⟩|⟨_,q⟩|⟨q,_⟩|⟨q,_⟩
   ·omega
   ·exact q
   ·omega
   ·omega
  have hfs:=zjv t.names t.kids (bs []) 0 hws hn.2.2
  simp only[zeG,length_nil,Nat.zero_add]at hfs
  simp[k5]
  refine zCk hp t hws hn.1 hn.2.2 (by omega) (by omega) ih _ rfl (ms:=[]) (by simp) fun T M n t5=>?_
  generalize zdf t.names t.kids (bs []) 0=f at*
  simp[t5,zaf]
  refine⟨by omega,by omega,?_⟩
  rw[hd]
 by_cases k6:t.kind=6
 ·have hn:t.kids.length=2:=by
   rcases hwf.2.2 with⟨_,q,_⟩|⟨q,_⟩|⟨_,_,q⟩|⟨q,_⟩
   ·omega
   ·omega
   ·exact q
   ·omega
  obtain⟨a,b,hab⟩:∃a b,t.kids=[a,b]:=by
   match t.kids,hn with
   |[a,b],_=>exact⟨a,b,rfl⟩
  have hia:=ih a (by rw[hab];simp) true
  have hib:=ih b (by rw[hab];simp) false
  have hsa:=zdj a true (hwf.2.1 a (by rw[hab];simp))
  have hsb:=zdj b false (hwf.2.1 b (by rw[hab];simp))
  rw[hab]at hcs hd
  simp only[zay]at hcs
  simp[k6]at hd
  simp[k6,hab,zaf]
  refine gN hia ?_
  simp[hab,zaf]
  refine⟨by omega,?_⟩
  refine gN hib ?_
  generalize zcL a true=sa at*
  generalize zcL b false=sb at*
  simp[zaf]
  refine⟨by omega,by decide,?_⟩
  cases br with
  |true=>
   simp at hd
   simp[zaf]
   refine⟨by omega,by omega,?_⟩
   rw[hd]
  |false=>
   simp at hd
   simp[hd]
 ·simp[k0,k1,k2,k3,k4,k5,k6]at hd
  simp[k0,k1,k2,k3,k4,k5,k6]
  refine zCl hp t hws (by omega) (by omega) ih R hd.symm (ms:=[]) (by simp) fun T M n t5=>?_
  simp[t5]
mutual
def zxg:∀t:Typ,wfT t->cntT t<=1000->zif t
 |.mk k n s l,hw,hc=>by
  have hws:=hw
  rw[wfT]at hws
  rw[cntT]at hc
  exact zCm (.mk k n s l) hw (by rw[cntT];omega) (fun e he=>ztZ l hws.2.1 (by omega) e he)
def ztZ:∀l:List Typ,wfTs l->zay l<=1000->∀e,e∈l->zif e
 |[],_,_,e,h=>by cases h
 |d::l,hw,hc,e,h=>by
  rw[wfTs]at hw
  rw[zay]at hc
  cases h with
  |head=>exact zxg d hw.1 (by omega)
  |tail _ h=>exact ztZ l hw.2 (by omega) e h
end
theorem zno(t:Typ):PCall Pg 60 [.agg t.enc] (.one (.str (zfj t))):=by
 refine zyi (by simp) fun o c hN hp=>?_
 obtain⟨R,hR⟩:∃R,zfj t=R:=⟨_,rfl⟩
 rw[hR]
 unfold zfj at hR
 have hi:isNR t=(decide ((za7 t).2=0)&&zaV (za7 t).1 t):=rfl
 have hsh:isNR t=true->zif t:=fun h=>zxg t (zd6 h) (by have:=zim h;omega)
 unfold zn2
 simp
 refine gN (zeJ t) ?_
 generalize za7 t=N at*
 simp
 refine gN (zh0 _ _) ?_
 by_cases h:N.2=0
 ·by_cases h2:zaV N.1 t=true
  ·have hx:isNR t=true:=by rw[hi];simp[h,h2]
   rw[aC hx]at hR
   simp[h,h2]
   refine gN (hsh hx false) ?_
   simp[hR]
  ·have hx:¬isNR t=true:=by rw[hi];simp[h,h2]
   rw[aB hx]at hR
   subst hR
   simp[h,h2]
 ·have hx:¬isNR t=true:=by rw[hi];simp[h]
  rw[aB hx]at hR
  subst hR
  simp[h]
end Go.Gr
