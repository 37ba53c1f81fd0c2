/- Texts of ours, joined and written short by a program of ours. -/
import Derived.Test.YtnefbdgcccgodaaGreatJ14
import Derived.Test.YtnefbdgcccgodaaGreatJ11
set_option linter.unusedVariables false
set_option linter.unusedSimpArgs false
namespace Go.Gr
open Go.Abs Go.Proofs
def WInf(b:Nat)(i:Inf):Prop:=∀env s,CW env.length b (i env s).1.1
theorem WInf.less{b b':Nat}{i:Inf}(h:WInf b i)(hb:b<=b'):WInf b' i:=fun env s=>(h env s).less hb
theorem zdS(n:Nod){b:Nat}{i:Inf}(h:WInf b i)(t:Typ)(env:Env)(s:CS):CW env.length (b+1) (zaZ n i t env s).1:=(h env s).coerce _ _ _ _ _
section
variable (L:Lnk)
theorem zy5(n:Nod):WInf 1 (zcG L n):=fun env s=>by
 unfold zcG
 simp only
 split
 ·rename_i h
  have:=zlQ env n.text
  have h0:=h.1
  refine⟨?_,by simp[cN,csz,cszs]⟩
  simp only[cN,wfC,wfCs,and_true,true_and]
  exact⟨by decide,fun h=>absurd h (by decide),fun h=>absurd h (by decide),fun _=>⟨h0,by omega⟩,fun h=>absurd h (by decide)⟩
 repeat' split
 all_goals first|exact CW.noC _|exact CW.global L _ _ _ _ _ _
theorem zAy(n a:Nod){ba bb:Nat}{ia ib:Inf}(ha:WInf ba ia)(hb:WInf bb ib):WInf (ba+bb+4) (letC n a ia ib):=fun env s=>by
 unfold letC
 simp only
 obtain⟨y,hy⟩:∃y,(if 0<n.types.length/\(ia env s).2.e=0 then(((zaA (ia env s).1.1 (ia env s).1.2 (zas (n.types.getD 0 noT) n.line n.col (ia env s).2).1 a.line a.col (zas (n.types.getD 0 noT) n.line n.col (ia env s).2).2).1,(zas (n.types.getD 0 noT) n.line n.col (ia env s).2).1),(zaA (ia env s).1.1 (ia env s).1.2 (zas (n.types.getD 0 noT) n.line n.col (ia env s).2).1 a.line a.col (zas (n.types.getD 0 noT) n.line n.col (ia env s).2).2).2)else ia env s)=y:=⟨_,rfl⟩
 have h1:CW env.length (ba+1) y.1.1:=by
  rw[<-hy]
  split
  ·exact(ha env s).coerce _ _ _ _ _
  ·exact(ha env s).less (by omega)
 rw[hy]
 have h2:=hb (env++[(n.text,y.1.2)]) y.2
 rw[List.length_append]at h2
 have:=h1.2
 have:=h2.2
 refine⟨?_,by simp only[cK,csz,cszs];omega⟩
 simp only[cK,wfC,wfCs,and_true,true_and]
 exact⟨by decide,fun _=>by simp,fun h=>absurd h (by decide),fun h=>absurd h (by decide),fun h=>absurd h (by decide),by simpa using h1.1,by simpa using h2.1⟩
theorem c_fn(n a:Nod){ba:Nat}{ia:Inf}(ha:WInf ba ia):WInf (ba+4) (fnC n a ia):=fun env s=>by
 unfold fnC
 simp only
 generalize (if 1<n.types.length/\(zas (n.types.getD 0 noT) n.line n.col s).2.e=0 then zas (n.types.getD 1 noT) n.line n.col (zas (n.types.getD 0 noT) n.line n.col s).2 else(noT,(zas (n.types.getD 0 noT) n.line n.col s).2))=q
 generalize (zas (n.types.getD 0 noT) n.line n.col s).1=p
 have h2:=ha (env++[(n.text,p)]) q.2
 rw[List.length_append]at h2
 generalize ia (env++[(n.text,p)]) q.2=x at*
 obtain⟨y,hy⟩:∃y,(if 1<n.types.length then(((zaA x.1.1 x.1.2 q.1 a.line a.col x.2).1,q.1),(zaA x.1.1 x.1.2 q.1 a.line a.col x.2).2)else x)=y:=⟨_,rfl⟩
 have h3:CW (env.length+[(n.text,p)].length) (ba+1) y.1.1:=by
  rw[<-hy]
  split
  ·exact h2.coerce _ _ _ _ _
  ·exact h2.less (by omega)
 rw[hy]
 have:=h3.2
 refine⟨?_,by simp only[cK,csz,cszs];omega⟩
 simp only[cK,wfC,wfCs,and_true,true_and]
 exact⟨by decide,fun h=>absurd h (by decide),fun h=>absurd h (by decide),fun h=>absurd h (by decide),fun _=>rfl,by simpa using h3.1⟩
theorem zzP(n b:Nod){ba bb:Nat}{ia ib:Inf}(ha:WInf ba ia)(hb:WInf bb ib):WInf (ba+bb+4) (zdv n b ia ib):=fun env s=>by
 unfold zdv
 simp only
 split
 ·exact(CW.noC _).less (by omega)
 ·exact(((ha env s).any _ _ _).n2 ((hb env _).coerce _ _ _ _ _) (by decide) (by decide) (by decide) (by decide) (by decide)).less (by omega)
theorem zAz(n:Nod){ba:Nat}{ia:Inf}(ha:WInf ba ia):WInf (ba+4) (selC n ia):=fun env s=>by
 unfold selC
 simp only
 refine CW.less (b:=ba+1+1) (CW.n1 ?_ (by decide) (by decide) (by decide) (by decide)) (by omega)
 split
 ·exact(ha env s).cast _ _ _ _ _
 ·exact(ha env s).less (by omega)
theorem zzQ(n:Nod){ba bb:Nat}{ia ib:Inf}(ha:WInf ba ia)(hb:WInf bb ib):WInf (ba+bb+4) (zdw n ia ib):=fun env s=>by
 unfold zdw
 simp only
 split
 ·exact(CW.noC _).less (by omega)
 ·exact(((ha env s).any _ _ _).n2 (hb env _) (by decide) (by decide) (by decide) (by decide) (by decide)).less (by omega)
theorem zmH(q:Nod)(env:Env):(zaO q env).1.length=env.length/\(zaO q env).2.length=env.length:=by
 unfold zaO
 split<;>simp
theorem c_if(q a b:Nod){bq ba bb:Nat}{iq ia ib:Inf}(hq:WInf bq iq)(ha:WInf ba ia)(hb:WInf bb ib):WInf (bq+ba+bb+4) (ifC q a b iq ia ib):=fun env s=>by
 unfold ifC
 simp only
 have h1:=ha (zaO q env).1 (zaA (iq env s).1.1 (iq env s).1.2 (bT 2) q.line q.col (iq env s).2).2
 rw[(zmH q env).1]at h1
 have h2:=hb (zaO q env).2 (ia (zaO q env).1 (zaA (iq env s).1.1 (iq env s).1.2 (bT 2) q.line q.col (iq env s).2).2).2
 rw[(zmH q env).2]at h2
 exact(CW.n3 ((hq env s).coerce _ _ _ _ _) (h1.coerce _ _ _ _ _) (h2.coerce _ _ _ _ _) (by decide) (by decide) (by decide) (by decide) (by decide)).less (by omega)
theorem c_as(n:Nod){ba:Nat}{ia:Inf}(ha:WInf ba ia):WInf (ba+4) (asC n ia):=fun env s=>by
 unfold asC
 simp only
 split
 ·exact(ha env s).less (by omega)
 split
 ·exact(ha env s).less (by omega)
 generalize (zas (n.types.getD 0 noT) n.line n.col (ia env s).2)=u
 obtain⟨y,hy⟩:∃y,(if(ia env s).1.2.kind≠0 then zaT (ia env s).1.1 (ia env s).1.2 noT n.line n.col u.2 else((ia env s).1.1,u.2))=y:=⟨_,rfl⟩
 have h3:CW env.length (ba+1) y.1:=by
  rw[<-hy]
  split
  ·exact(ha env s).cast _ _ _ _ _
  ·exact(ha env s).less (by omega)
 rw[hy]
 split
 ·exact h3.less (by omega)
 split
 ·exact(h3.cast _ _ _ _ _).less (by omega)
 ·exact(h3.n1 (by decide) (by decide) (by decide) (fun _=>rfl)).less (by omega)
theorem c_op(n a b:Nod){ba bb:Nat}{ia ib:Inf}(ha:WInf ba ia)(hb:WInf bb ib):WInf (ba+bb+4) (opC n a b ia ib):=fun env s=>by
 unfold opC
 simp only
 split
 ·exact(CW.n3 (zdS a ha _ env s) (CW.n0 _ 2 1 _ (by decide) (by decide) (by decide) (by decide)) (zdS b hb _ env _) (by decide) (by decide) (by decide) (by decide) (by decide)).less (by omega)
 split
 ·exact(CW.n3 (zdS a ha _ env s) (zdS b hb _ env _) (CW.n0 _ 2 0 _ (by decide) (by decide) (by decide) (by decide)) (by decide) (by decide) (by decide) (by decide) (by decide)).less (by omega)
 split
 ·exact(CW.n2 (ha env s) (hb env _) (by decide) (by decide) (by decide) (by decide) (by decide)).less (by omega)
 split
 ·exact(CW.n2 (zdS a ha _ env s) (zdS b hb _ env _) (by decide) (by decide) (by decide) (by decide) (by decide)).less (by omega)
 ·exact(CW.n2 (zdS a ha _ env s) (zdS b hb _ env _) (by decide) (by decide) (by decide) (by decide) (by decide)).less (by omega)
theorem zAA(n a:Nod){ba:Nat}{ia:Inf}(ha:WInf ba ia):WInf (ba+4) (oneC n a ia):=fun env s=>by
 unfold oneC
 split
 ·exact(CW.n1 (zdS a ha _ env s) (by decide) (by decide) (by decide) (by decide)).less (by omega)
 split
 ·exact(CW.n1 (zdS a ha _ env s) (by decide) (by decide) (by decide) (by decide)).less (by omega)
 split
 ·exact(CW.n1 (ha env s) (by decide) (by decide) (by decide) (by decide)).less (by omega)
 ·exact(CW.n1 (ha env s) (by decide) (by decide) (by decide) (by decide)).less (by omega)
theorem zqA:∀(l:List Nod),(∀x,x∈l->WInf (4*nsz x) (zao L x))->∀env s,(∀c,c∈(zaN L l env s).1.1->wfC env.length c)/\cszs (zaN L l env s).1.1<=4*nszs l
 |[],_,env,s=>by rw[zaN];exact⟨fun c h=>(by cases h),by simp[cszs]⟩
 |n::l,h,env,s=>by
  rw[zaN]
  simp only
  have h1:=h n (by simp) env s
  have h2:=zqA l (fun x hx=>h x (by simp[hx])) env (zao L n env s).2
  have:=h1.2
  have:=h2.2
  refine⟨fun c hc=>?_,by rw[cszs,nszs];omega⟩
  rcases List.mem_cons.1 hc with e|hc
  ·rw[e];exact h1.1
  ·exact h2.1 c hc
theorem zAB(n:Nod)(h:∀x,x∈n.kids->WInf (4*nsz x) (zao L x)):WInf (4*nsz n) (recC n (zaN L n.kids)):=fun env s=>by
 unfold recC
 simp only
 have h1:=zqA L n.kids h env (if dupS [] n.names=true then zaL n.line n.col 8 s else s)
 have:=h1.2
 have:=za6 n
 refine⟨?_,by simp only[csz];omega⟩
 simp only[wfC,true_and]
 exact⟨by decide,fun h=>absurd h (by decide),fun h=>absurd h (by decide),fun h=>absurd h (by decide),fun h=>absurd h (by decide),zqT (by decide) (by decide) h1.1⟩
theorem zmI{b:Nat}{j:Inf}(h:WInf b j)(hb:1<=b):WInf b (stopC j):=fun env s=>by
 unfold stopC
 split
 ·exact(CW.noC _).less hb
 ·exact h env s
theorem zmJ(n:Nod){rest:Inf}(hr:WInf (4*nsz n) rest)(h:∀x,x∈n.kids->WInf (4*nsz x) (zao L x)):WInf (4*nsz n) (headC L n rest):=fun env s=>by
 have:=za6 n
 unfold headC
 split
 ·exact(CW.n0 _ 0 _ _ (by decide) (by decide) (by decide) (by decide)).less (by omega)
 split
 ·exact(CW.n0 _ 1 _ _ (by decide) (by decide) (by decide) (by decide)).less (by omega)
 split
 ·exact(CW.n0 _ 2 _ _ (by decide) (by decide) (by decide) (by decide)).less (by omega)
 split
 ·exact(CW.n0 _ 3 _ _ (by decide) (by decide) (by decide) (by decide)).less (by omega)
 split
 ·exact(CW.n0 _ 20 _ _ (by decide) (by decide) (by decide) (by decide)).less (by omega)
 split
 ·exact(zy5 L n env s).less (by omega)
 split
 ·exact zAB L n h env s
 ·exact hr env s
theorem zxr(n:Nod)(h:∀x,x∈n.kids->WInf (4*nsz x) (zao L x)):WInf (4*nsz n) (zao L n):=by
 obtain⟨k,tx,nn,ln,cl,ts,ns,ks⟩:=n
 match ks,h with
 |[],h=>
  rw[eq0]
  exact zmI (zmJ L _ (fun env s=>(CW.noC _).less (by rw[za6];omega)) h) (by rw[za6];omega)
 |[a],h=>
  have ha:=h a (by simp[Nod.kids])
  have e:4*nsz (Nod.mk k tx nn ln cl ts ns [a])=4*nsz a+4:=by simp only[nsz,nszs];omega
  rw[eq1]
  refine zmI (zmJ L _ (fun env s=>?_) h) (by omega)
  rw[e]
  unfold zgC
  split
  ·exact c_fn _ _ ha env s
  split
  ·exact zAz _ ha env s
  split
  ·exact c_as _ ha env s
  ·exact zAA _ _ ha env s
 |[a,b],h=>
  have ha:=h a (by simp[Nod.kids])
  have hb:=h b (by simp[Nod.kids])
  have e:4*nsz (Nod.mk k tx nn ln cl ts ns [a,b])=4*nsz a+4*nsz b+4:=by simp only[nsz,nszs];omega
  rw[eq2]
  refine zmI (zmJ L _ (fun env s=>?_) h) (by omega)
  rw[e]
  unfold zgD
  split
  ·exact zAy _ _ ha hb env s
  split
  ·exact zzP _ _ ha hb env s
  split
  ·exact zzQ _ ha hb env s
  ·exact c_op _ _ _ ha hb env s
 |a::b::c::l,h=>
  have e:4*nsz a+4*nsz b+4*nsz c+4<=4*nsz (Nod.mk k tx nn ln cl ts ns (a::b::c::l)):=by simp only[nsz,nszs];omega
  rw[eq3]
  exact zmI (zmJ L _ ((c_if a b c (h a (by simp[Nod.kids])) (h b (by simp[Nod.kids])) (h c (by simp[Nod.kids]))).less e) h) (by omega)
mutual
theorem zsF:∀n:Nod,WInf (4*nsz n) (zao L n)
 |.mk k tx nn ln cl ts ns ks=>zxr L _ (zqB ks)
theorem zqB:∀l:List Nod,∀x,x∈l->WInf (4*nsz x) (zao L x)
 |[],x,hx=>by cases hx
 |n::l,x,hx=>by
  rcases List.mem_cons.1 hx with e|hx
  ·rw[e];exact zsF n
  ·exact zqB l x hx
end
end
def FunG(f:Fun):Prop:=CW 1 120005 f.body/\f.name.size<=30000000000
theorem zmK:∀(l:List Typ) (i:Nat) (s:ByteArray),(zcl l i s).size<=s.size+l.length*20010
 |[],i,s=>by rw[zcl];omega
 |t::l,i,s=>by
  have h:=zmK l (i+1) (s++(if i=0 then bs [91]else bs [44,32])++zd1 t)
  have h2:=zh3 t
  have h3:(if i=0 then bs [91]else bs [44,32]).size<=2:=by split<;>decide
  rw[zcl,List.length_cons]
  rw[ByteArray.size_append,ByteArray.size_append]at h
  omega
theorem fun_good{L:Lnk}(hG:LinkG L){x:Ist}(hx:EntOk L ⟨bs [],x.module,x.decl⟩)(hxt:x.types.length<=1000000)(s:CS)(hs:∀f,f∈s.funs->FunG f):∀f,f∈(funC L x s).funs->FunG f:=by
 have hd:=(zex hG hx).1
 have hdn:=(zex hG hx).2
 have hmn:(L.names.getD x.module.toNat (bs [])).size<=32:=by
  rw[List.getD_eq_getElem?_getD]
  cases q:L.names[x.module.toNat]? with
  |none=>decide
  |some z=>exact hG.modNames z (List.mem_of_getElem? q)
 have f0:fb (startC L x s)=fb s:=rfl
 unfold funC
 unfold startC at f0
 simp only
 generalize decAt L x.module x.decl=d at*
 generalize ({s with module:=x.module,vars:=d.vars.map (·.1),wth:=x.types,e:=0}:CS)=s0 at*
 have f1:=zdu (d.types.getD 0 noT) d.line d.col s0
 generalize zas (d.types.getD 0 noT) d.line d.col s0=r1 at*
 have f2:=zdu (d.types.getD 1 noT) d.line d.col r1.2
 generalize zas (d.types.getD 1 noT) d.line d.col r1.2=r2 at*
 obtain⟨T,hT⟩:∃T,(if r2.2.e=0 then zbf (fnT r1.1 r2.1) d.line d.col r2.2 else(fnT r1.1 r2.1,r2.2))=T:=⟨_,rfl⟩
 have p3:fb T.2=fb r2.2:=by
  rw[<-hT]
  split
  ·exact zkA _ _ _ _
  ·rfl
 rw[hT]
 clear hT
 obtain⟨S,hS⟩:∃S,(if x.module=L.main.module/\x.decl=L.main.decl/\zfQ (bT 1) r1.1=false then zaL d.line d.col 14 T.2 else T.2)=S:=⟨_,rfl⟩
 have p4:fb S=fb T.2:=by
  rw[<-hS]
  split
  ·exact znI _ _ _ _
  ·rfl
 rw[hS]
 clear hS
 have p5:=zsF L d.body [(d.param,r1.1)] S
 have f5:=zkB L d.body [(d.param,r1.1)] S
 generalize zao L d.body [(d.param,r1.1)] S=y at*
 have p6:=p5.coerce y.1.2 r2.1 d.body.line d.body.col y.2
 have f6:=zjR y.1.1 y.1.2 r2.1 d.body.line d.body.col y.2
 generalize zaA y.1.1 y.1.2 r2.1 d.body.line d.body.col y.2=z at*
 have f:fb z.2=fb s:=by rw[f6,f5,p4,p3,f2,f1,f0]
 have g1:z.2.funs=s.funs:=congrArg (·.1) f
 have hsz:CW 1 120005 z.1:=p6.less (by have:=hd.size;omega)
 have key:∀nm:ByteArray,nm.size<=30000000000->∀f,f∈z.2.funs++[(⟨nm,T.1,z.1⟩:Fun)]->FunG f:=fun nm hnm f hf=>by
  rw[g1]at hf
  rcases List.mem_append.1 hf with hf|hf
  ·exact hs f hf
  ·rw[List.mem_singleton.1 hf]
   exact⟨hsz,hnm⟩
 have hn1:=zmK x.types 0 (L.names.getD x.module.toNat (bs [])++bs [46]++d.name)
 have hb1:(bs [46]).size=1:=rfl
 have hb2:(bs [93]).size=1:=rfl
 have hn2:(if 0<x.types.length then zcl x.types 0 (L.names.getD x.module.toNat (bs [])++bs [46]++d.name)++bs [93]else zcl x.types 0 (L.names.getD x.module.toNat (bs [])++bs [46]++d.name)).size<=30000000000:=by
  rw[ByteArray.size_append,ByteArray.size_append]at hn1
  split
  ·rw[ByteArray.size_append];omega
  ·omega
 split
 ·exact key _ hn2
 ·exact key _ hn2
theorem zoF{L:Lnk}(hG:LinkG L):∀(n i:Nat) (s:CS),i+n<=257->TOk L s i->(∀f,f∈s.funs->FunG f)->(∀f,f∈(funsC L n i s).funs->FunG f)/\(funsC L n i s).funs.length<=257
 |0,i,s,hi,h,hf=>by rw[funsC];exact⟨hf,by have:=h.funs;omega⟩
 | n+1,i,s,hi,h,hf=>by
  rw[funsC]
  split
  ·rename_i q
   have hm:s.tab.getD i ⟨0,0,[]⟩∈s.tab:=by
    rw[List.getD_eq_getElem?_getD,List.getElem?_eq_getElem q]
    exact List.getElem_mem q
   have h1:=h.ist _ hm
   exact zoF hG n (i+1) _ (by omega) (fun_keep hG h1.1 h1.2 (by omega) h) (fun_good hG h1.1 h1.2 s hf)
  ·exact⟨hf,by have:=h.funs;omega⟩
theorem seedD_funs(L:Lnk)(i:Nat):∀(l:List Dec) (k:Nat) (s:CS),(zcz L i l k s).1.funs=s.funs
 |[],k,s=>by rw[zcz]
 | d::l,k,s=>by
  rw[zcz]
  split
  ·exact seedD_funs L i l (k+1) s
  ·simp only
   split
   ·rfl
   ·rw[seedD_funs L i l (k+1)]
theorem seedM_funs(L:Lnk):∀(l:List Mdl) (i:Nat) (s:CS),(seedM L l i s).1.funs=s.funs
 |[],i,s=>by rw[seedM]
 |m::l,i,s=>by
  rw[seedM]
  split
  ·exact seedD_funs L i m.decs 0 s
  ·rw[seedM_funs L l,seedD_funs]
theorem cs0_ok(L:Lnk):TOk L cs0 0:=⟨by simp[cs0],by simp[cs0],by simp[cs0],by simp[cs0],by simp[cs0]⟩
def PrgG(p:Prg):Prop:=(∀f,f∈p.funs->FunG f)/\p.funs.length<=257
theorem zrP{L:Lnk}(hG:LinkG L):PrgG (checkP L).1:=by
 have n0:PrgG noPrg:=⟨fun f h=>(by cases h),by decide⟩
 unfold checkP
 simp only
 split
 ·exact n0
 split
 ·exact n0
 ·have h0:=zlP L.mods 0 cs0 (by simp) (cs0_ok L)
  have h:=zoF hG 257 0 (seedM L L.mods 0 cs0).1 (by omega) h0 (by rw[seedM_funs];intro f hf;cases hf)
  exact h
theorem programP_good(l:List (ByteArray × ByteArray)):PrgG (programP l).1:=by
 have n0:PrgG noPrg:=⟨fun f h=>(by cases h),by decide⟩
 unfold programP
 split
 ·exact n0
 simp only
 split
 ·exact n0
 ·exact zrP (zjb l (by omega))
end Go.Gr
namespace Go.Gr
open Go.Abs Go.Proofs
def zfC:MC:=(fun x (_:x=gC tt [] [(5,[0,0,2,6,14,0,32,0,128,480,992,2046,4095,8191,16383])] [] (gLb 0 (gB Tryz.f11)))=>x) _ (by dsimp[Tryz.f11])
def zfD:MC:=(fun x (_:x=gC tt [(9,22)] [(12,[0,0,2,0,8,24,0,0,0,256,0,1024,3072,8128,16382,32766,65535,131071])] [] (gLb 2 (gB Tryz.f11)))=>x) _ (by dsimp[Tryz.f11])
def zgR:MC:=(fun x (_:x=gC tt [(0,10),(6,0),(6,2),(7,1)] [] [(0,zfC),(2,zfD)] (gB Tryz.f11))=>x) _ (by dsimp[Tryz.f11])
theorem znu:WT Pg 11 67 zgR [.tmp 2]:=wT zab Tryz.func11 (by kernel_rfl)
def lp_clos_converter_core_1:MC:=(fun x (_:x=gC tt [] [(13,[0,1,0,0,12,28,63,127,255])] [] (gLb 1 (gB Tryz.f22)))=>x) _ (by dsimp[Tryz.f22])
def zdh:MC:=(fun x (_:x=gC tt [(9,22)] [(24,[0,1,0,0,0,0,0,120,255,511])] [] (gLb 3 (gB Tryz.f22)))=>x) _ (by dsimp[Tryz.f22])
def zdO:MC:=(fun x (_:x=gC tt [(0,6),(9,39),(3,38),(3,39),(3,83),(6,1),(7,1)] [(15,[0,0,2,6,14,0,32,96,0,256,768,1792,0,0,16352,32736,65534,131071,262143,524287])] [(1,lp_clos_converter_core_1),(3,zdh)] (gB Tryz.f22))=>x) _ (by dsimp[Tryz.f22])
theorem zg5:WM Pg 22 111 zdO [.cell 8 true 8]:=wM zab Tryz.func22 (by kernel_rfl)
def lp_clos_gather_0:MC:=(fun x (_:x=gC tt [(9,39)] [] [] (gLb 0 (gB Tryz.f39)))=>x) _ (by dsimp[Tryz.f39])
def zhz:MC:=(fun x (_:x=gC tt [] [] [(0,lp_clos_gather_0)] (gB Tryz.f39))=>x) _ (by dsimp[Tryz.f39])
theorem znv:WM Pg 39 32 zhz []:=wM zab Tryz.func39 (by kernel_rfl)
def mc_clos_todo_number:MC:=(fun x (_:x=gC tt [] [] [] (gB Tryz.f38))=>x) _ (by dsimp[Tryz.f38])
theorem zjy:WT Pg 38 21 mc_clos_todo_number [.tmp 4]:=wT zab Tryz.func38 (by kernel_rfl)
def mc_w13_awake:MC:=(fun x (_:x=gC tt [] [] [] (gB Tryz.f6))=>x) _ (by dsimp[Tryz.f6])
theorem zrD:WT Pg 6 46 mc_w13_awake [.tmp 0]:=wT zab Tryz.func6 (by kernel_rfl)
def mc_maps_Keys_map_int_bool_int_bool:MC:=(fun x (_:x=gC tt [(0,1)] [] [] (gB Tryz.f41))=>x) _ (by dsimp[Tryz.f41])
theorem zdJ:WM Pg 41 4 mc_maps_Keys_map_int_bool_int_bool [.tmp 2]:=wM zab Tryz.func41 (by kernel_rfl)
def mc_slices_Clone_api_Core_api_Core:MC:=(fun x (_:x=gC tt [(7,0)] [] [] (gB Tryz.f42))=>x) _ (by dsimp[Tryz.f42])
theorem zdP:WM Pg 42 8 mc_slices_Clone_api_Core_api_Core [.tmp 2]:=wM zab Tryz.func42 (by kernel_rfl)
def lp_slices_Index_int_int_0:MC:=(fun x (_:x=gC tt [] [] [] (gLb 0 (gB Tryz.f63)))=>x) _ (by dsimp[Tryz.f63])
def zdI:MC:=(fun x (_:x=gC tt [] [] [(0,lp_slices_Index_int_int_0)] (gB Tryz.f63))=>x) _ (by dsimp[Tryz.f63])
theorem zg6:WT Pg 63 19 zdI [.tmp 4]:=wT zab Tryz.func63 (by kernel_rfl)
end Go.Gr
