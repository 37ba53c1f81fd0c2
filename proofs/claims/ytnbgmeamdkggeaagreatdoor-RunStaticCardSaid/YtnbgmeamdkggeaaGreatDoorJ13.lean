/- Texts of ours, joined and written short by a program of ours. -/
import Derived.Test.YtnbgmeamdkggeaaGreatDoorJ12
import Derived.Test.YtnbgmeamdkggeaaGreatDoorJ09
import Derived.Test.YtnbgmeamdkggeaaGreatDoorJ10
set_option maxRecDepth 20000
set_option maxHeartbeats 4000000
set_option linter.unusedVariables false
set_option linter.unusedSectionVars false
set_option linter.unusedSimpArgs false
set_option linter.defProp false
set_option linter.unnecessarySimpa false
namespace Go.Gr
open Go.Abs Go.Proofs List
def iW(b:Nat)(i:Inf):Prop:=∀env s,CW env.length b (i env s).1.1
def iW.less{b b':Nat}{i:Inf}(h:iW b i)(hb:b<=b'):iW b' i:=λenv s=>(h env s).less hb
def yx(n:fo){b:Nat}{i:Inf}(h:iW b i)(t:fZ)(env:Env)(s:CS):CW env.length (b+1) (lg n i t env s).1:=(h env s).coerce _ _ _ _ _
section
variable (L:gq)
def zFg(n:fo):iW 1 (sS L n):=λenv s=>by
 unfold sS;simp only;split
 ·rename_i h;have:=NS env n.text;have h0:=h.1;refine⟨?_,by simp[cN,iQ,gu]⟩;simp only[cN,vU,oK,and_true,true_and];exact⟨by decide,λh=>absurd h (by decide),λh=>absurd h (by decide),λ_=>⟨h0,by omega⟩,λh=>absurd h (by decide)⟩
 repeat' split
 all_goals first|exact CW.noC _|exact CW.global L _ _ _ _ _ _
def zHi(n a:fo){ba bb:Nat}{ia ib:Inf}(ha:iW ba ia)(hb:iW bb ib):iW (ba+bb+4) (nS n a ia ib):=λenv s=>by
 unfold nS;simp only;obtain⟨y,hy⟩:∃y,(if 0<n.types.length/\(ia env s).2.e=0 then(((jw (ia env s).1.1 (ia env s).1.2 (iZ (n.types.getD 0 noT) n.line n.col (ia env s).2).1 a.line a.col (iZ (n.types.getD 0 noT) n.line n.col (ia env s).2).2).1,(iZ (n.types.getD 0 noT) n.line n.col (ia env s).2).1),(jw (ia env s).1.1 (ia env s).1.2 (iZ (n.types.getD 0 noT) n.line n.col (ia env s).2).1 a.line a.col (iZ (n.types.getD 0 noT) n.line n.col (ia env s).2).2).2)else ia env s)=y:=⟨_,rfl⟩
 have h1:CW env.length (ba+1) y.1.1:=by
  rw[<-hy];split
  ·exact(ha env s).coerce _ _ _ _ _
  ·exact(ha env s).less (by omega)
 rw[hy];have h2:=hb (env++[(n.text,y.1.2)]) y.2;rw[aR]at h2;have:=h1.2;have:=h2.2;refine⟨?_,by simp only[cK,iQ,gu];omega⟩;simp only[cK,vU,oK,and_true,true_and];exact⟨by decide,λ_=>by simp,λh=>absurd h (by decide),λh=>absurd h (by decide),λh=>absurd h (by decide),by simpa using h1.1,by simpa using h2.1⟩
def OG(n a:fo){ba:Nat}{ia:Inf}(ha:iW ba ia):iW (ba+4) (ul n a ia):=λenv s=>by
 unfold ul;simp only;generalize (if 1<n.types.length/\(iZ (n.types.getD 0 noT) n.line n.col s).2.e=0 then iZ (n.types.getD 1 noT) n.line n.col (iZ (n.types.getD 0 noT) n.line n.col s).2 else(noT,(iZ (n.types.getD 0 noT) n.line n.col s).2))=q;generalize (iZ (n.types.getD 0 noT) n.line n.col s).1=p;have h2:=ha (env++[(n.text,p)]) q.2;rw[aR]at h2;generalize ia (env++[(n.text,p)]) q.2=x at*
 obtain⟨y,hy⟩:∃y,(if 1<n.types.length then(((jw x.1.1 x.1.2 q.1 a.line a.col x.2).1,q.1),(jw x.1.1 x.1.2 q.1 a.line a.col x.2).2)else x)=y:=⟨_,rfl⟩
 have h3:CW (env.length+[(n.text,p)].length) (ba+1) y.1.1:=by
  rw[<-hy];split
  ·exact h2.coerce _ _ _ _ _
  ·exact h2.less (by omega)
 rw[hy];have:=h3.2;refine⟨?_,by simp only[cK,iQ,gu];omega⟩;simp only[cK,vU,oK,and_true,true_and];exact⟨by decide,λh=>absurd h (by decide),λh=>absurd h (by decide),λh=>absurd h (by decide),λ_=>rfl,by simpa using h3.1⟩
def c_call(n b:fo){ba bb:Nat}{ia ib:Inf}(ha:iW ba ia)(hb:iW bb ib):iW (ba+bb+4) (um n b ia ib):=λenv s=>by
 unfold um;simp only;split
 ·exact(CW.noC _).less (by omega)
 ·exact(((ha env s).any _ _ _).n2 ((hb env _).coerce _ _ _ _ _) (by decide) (by decide) (by decide) (by decide) (by decide)).less (by omega)
def zHj(n:fo){ba:Nat}{ia:Inf}(ha:iW ba ia):iW (ba+4) (nT n ia):=λenv s=>by
 unfold nT;simp only;refine CW.less (b:=ba+1+1) (CW.n1 ?_ (by decide) (by decide) (by decide) (by decide)) (by omega);split
 ·exact(ha env s).cast _ _ _ _ _
 ·exact(ha env s).less (by omega)
def zGr(n:fo){ba bb:Nat}{ia ib:Inf}(ha:iW ba ia)(hb:iW bb ib):iW (ba+bb+4) (uo n ia ib):=λenv s=>by
 unfold uo;simp only;split
 ·exact(CW.noC _).less (by omega)
 ·exact(((ha env s).any _ _ _).n2 (hb env _) (by decide) (by decide) (by decide) (by decide) (by decide)).less (by omega)
def YF(q:fo)(env:Env):(lF q env).1.length=env.length/\(lF q env).2.length=env.length:=by
 unfold lF;split<;>simp
def OH(q a b:fo){bq ba bb:Nat}{iq ia ib:Inf}(hq:iW bq iq)(ha:iW ba ia)(hb:iW bb ib):iW (bq+ba+bb+4) (uq q a b iq ia ib):=λenv s=>by
 unfold uq;simp only;have h1:=ha (lF q env).1 (jw (iq env s).1.1 (iq env s).1.2 (bT 2) q.line q.col (iq env s).2).2;rw[(YF q env).1]at h1;have h2:=hb (lF q env).2 (ia (lF q env).1 (jw (iq env s).1.1 (iq env s).1.2 (bT 2) q.line q.col (iq env s).2).2).2;rw[(YF q env).2]at h2;exact(CW.n3 ((hq env s).coerce _ _ _ _ _) (h1.coerce _ _ _ _ _) (h2.coerce _ _ _ _ _) (by decide) (by decide) (by decide) (by decide) (by decide)).less (by omega)
def OI(n:fo){ba:Nat}{ia:Inf}(ha:iW ba ia):iW (ba+4) (ut n ia):=λenv s=>by
 unfold ut;simp only;split
 ·exact(ha env s).less (by omega)
 split
 ·exact(ha env s).less (by omega)
 generalize (iZ (n.types.getD 0 noT) n.line n.col (ia env s).2)=u;obtain⟨y,hy⟩:∃y,(if(ia env s).1.2.kind≠0 then lH (ia env s).1.1 (ia env s).1.2 noT n.line n.col u.2 else((ia env s).1.1,u.2))=y:=⟨_,rfl⟩
 have h3:CW env.length (ba+1) y.1:=by
  rw[<-hy];split
  ·exact(ha env s).cast _ _ _ _ _
  ·exact(ha env s).less (by omega)
 rw[hy];split
 ·exact h3.less (by omega)
 split
 ·exact(h3.cast _ _ _ _ _).less (by omega)
 ·exact(h3.n1 (by decide) (by decide) (by decide) (λ_=>rfl)).less (by omega)
def OJ(n a b:fo){ba bb:Nat}{ia ib:Inf}(ha:iW ba ia)(hb:iW bb ib):iW (ba+bb+4) (opC n a b ia ib):=λenv s=>by
 unfold opC;simp only;split
 ·exact(CW.n3 (yx a ha _ env s) (CW.n0 _ 2 1 _ (by decide) (by decide) (by decide) (by decide)) (yx b hb _ env _) (by decide) (by decide) (by decide) (by decide) (by decide)).less (by omega)
 split
 ·exact(CW.n3 (yx a ha _ env s) (yx b hb _ env _) (CW.n0 _ 2 0 _ (by decide) (by decide) (by decide) (by decide)) (by decide) (by decide) (by decide) (by decide) (by decide)).less (by omega)
 split
 ·exact(CW.n2 (ha env s) (hb env _) (by decide) (by decide) (by decide) (by decide) (by decide)).less (by omega)
 split
 ·exact(CW.n2 (yx a ha _ env s) (yx b hb _ env _) (by decide) (by decide) (by decide) (by decide) (by decide)).less (by omega)
 ·exact(CW.n2 (yx a ha _ env s) (yx b hb _ env _) (by decide) (by decide) (by decide) (by decide) (by decide)).less (by omega)
def zHk(n a:fo){ba:Nat}{ia:Inf}(ha:iW ba ia):iW (ba+4) (nC n a ia):=λenv s=>by
 unfold nC;split
 ·exact(CW.n1 (yx a ha _ env s) (by decide) (by decide) (by decide) (by decide)).less (by omega)
 split
 ·exact(CW.n1 (yx a ha _ env s) (by decide) (by decide) (by decide) (by decide)).less (by omega)
 split
 ·exact(CW.n1 (ha env s) (by decide) (by decide) (by decide) (by decide)).less (by omega)
 ·exact(CW.n1 (ha env s) (by decide) (by decide) (by decide) (by decide)).less (by omega)
def YG:∀(l:List fo),(∀x,x∈l->iW (4*gQ x) (iE L x))->∀env s,(∀c,c∈(lM L l env s).1.1->vU env.length c)/\gu (lM L l env s).1.1<=4*gy l
|[],_,env,s=>by rw[lM];exact⟨λc h=>(by cases h),by simp[gu]⟩
|n::l,h,env,s=>by
 rw[lM];simp only;have h1:=h n (by simp) env s;have h2:=YG l (λx hx=>h x (by simp[hx])) env (iE L n env s).2;have:=h1.2;have:=h2.2;refine⟨λc hc=>?_,by rw[gu,gy];omega⟩;rcases aS.1 hc with e|hc
 ·rw[e];exact h1.1
 ·exact h2.1 c hc
def zHl(n:fo)(h:∀x,x∈n.kids->iW (4*gQ x) (iE L x)):iW (4*gQ n) (oI n (lM L n.kids)):=λenv s=>by
 unfold oI;simp only;have h1:=YG L n.kids h env (if lI [] n.names=true then kL n.line n.col 8 s else s);have:=h1.2;have:=pK n;refine⟨?_,by simp only[iQ];omega⟩;simp only[vU,true_and];exact⟨by decide,λh=>absurd h (by decide),λh=>absurd h (by decide),λh=>absurd h (by decide),λh=>absurd h (by decide),YE (by decide) (by decide) h1.1⟩
def JS{b:Nat}{j:Inf}(h:iW b j)(hb:1<=b):iW b (jl j):=λenv s=>by
 unfold jl;split
 ·exact(CW.noC _).less hb
 ·exact h env s
def JU(n:fo){rest:Inf}(hr:iW (4*gQ n) rest)(h:∀x,x∈n.kids->iW (4*gQ x) (iE L x)):iW (4*gQ n) (nX L n rest):=λenv s=>by
 have:=pK n;unfold nX;split
 ·exact(CW.n0 _ 0 _ _ (by decide) (by decide) (by decide) (by decide)).less (by omega)
 split
 ·exact(CW.n0 _ 1 _ _ (by decide) (by decide) (by decide) (by decide)).less (by omega)
 split
 ·exact(CW.n0 _ 2 _ _ (by decide) (by decide) (by decide) (by decide)).less (by omega)
 split
 ·exact(CW.n0 _ 3 _ _ (by decide) (by decide) (by decide) (by decide)).less (by omega)
 split
 ·exact(CW.n0 _ 20 _ _ (by decide) (by decide) (by decide) (by decide)).less (by omega)
 split
 ·exact(zFg L n env s).less (by omega)
 split
 ·exact zHl L n h env s
 ·exact hr env s
def zDz(n:fo)(h:∀x,x∈n.kids->iW (4*gQ x) (iE L x)):iW (4*gQ n) (iE L n):=by
 obtain⟨k,tx,nn,ln,cl,ts,ns,ks⟩:=n
 match ks,h with
 |[],h=>
  rw[Fv];exact JS (JU L _ (λenv s=>(CW.noC _).less (by rw[pK];omega)) h) (by rw[pK];omega)
 |[a],h=>
  have ha:=h a (by simp[fo.kids]);have e:4*gQ (fo.mk k tx nn ln cl ts ns [a])=4*gQ a+4:=by simp only[gQ,gy];omega
  rw[yw];refine JS (JU L _ (λenv s=>?_) h) (by omega);rw[e];unfold yu;split
  ·exact OG _ _ ha env s
  split
  ·exact zHj _ ha env s
  split
  ·exact OI _ ha env s
  ·exact zHk _ _ ha env s
 |[a,b],h=>
  have ha:=h a (by simp[fo.kids]);have hb:=h b (by simp[fo.kids]);have e:4*gQ (fo.mk k tx nn ln cl ts ns [a,b])=4*gQ a+4*gQ b+4:=by simp only[gQ,gy];omega
  rw[zx];refine JS (JU L _ (λenv s=>?_) h) (by omega);rw[e];unfold zw;split
  ·exact zHi _ _ ha hb env s
  split
  ·exact c_call _ _ ha hb env s
  split
  ·exact zGr _ ha hb env s
  ·exact OJ _ _ _ ha hb env s
 |a::b::c::l,h=>
  have e:4*gQ a+4*gQ b+4*gQ c+4<=4*gQ (fo.mk k tx nn ln cl ts ns (a::b::c::l)):=by simp only[gQ,gy];omega
  rw[EA];exact JS (JU L _ ((OH a b c (h a (by simp[fo.kids])) (h b (by simp[fo.kids])) (h c (by simp[fo.kids]))).less e) h) (by omega)
mutual
def YH:∀n:fo,iW (4*gQ n) (iE L n)
|.mk k tx nn ln cl ts ns ks=>zDz L _ (YI ks)
def YI:∀l:List fo,∀x,x∈l->iW (4*gQ x) (iE L x)
|[],x,hx=>by cases hx
|n::l,x,hx=>by
 rcases aS.1 hx with e|hx
 ·rw[e];exact YH n
 ·exact YI l x hx
end
end
def wY(f:kJ):Prop:=CW 1 120005 f.body/\f.name.size<=30000000000
def YJ:∀(l:List fZ) (i:Nat) (s:di),(ry l i s).size<=s.size+l.length*20010
|[],i,s=>by rw[ry];omega
|t::l,i,s=>by
 have h:=YJ l (i+1) (s++(if i=0 then bs [91]else bs [44,32])++xD t);have h2:=Nk t;have h3:(if i=0 then bs [91]else bs [44,32]).size<=2:=by split<;>decide
 rw[ry,length_cons];rw[aY,aY]at h;omega
theorem zDA{L:gq}(hG:kr L){x:jR}(hx:jX L ⟨bs [],x.module,x.decl⟩)(hxt:x.types.length<=1000000)(s:CS)(hs:∀f,f∈s.funs->wY f):(∀f,f∈(kP L x s).funs->wY f)/\(kP L x s).main=s.main:=by
 have hd:=(EC hG hx).1;have hdn:=(EC hG hx).2;have hmn:(L.names.getD x.module.toNat (bs [])).size<=32:=by
  rw[aF];cases q:L.names[x.module.toNat]? with
  |none=>decide
  |some z=>exact hG.modNames z (aW q)
 have f0:fb (rH L x s)=fb s:=rfl;unfold kP;unfold rH at f0;simp only;generalize qD L x.module x.decl=d at*
 generalize ({s with module:=x.module,vars:=d.vars.map (·.1),wth:=x.types,e:=0}:CS)=s0 at*
 have f1:=Au (d.types.getD 0 noT) d.line d.col s0;generalize iZ (d.types.getD 0 noT) d.line d.col s0=r1 at*
 have f2:=Au (d.types.getD 1 noT) d.line d.col r1.2;generalize iZ (d.types.getD 1 noT) d.line d.col r1.2=r2 at*
 obtain⟨T,hT⟩:∃T,(if r2.2.e=0 then nR (jG r1.1 r2.1) d.line d.col r2.2 else(jG r1.1 r2.1,r2.2))=T:=⟨_,rfl⟩
 have p3:fb T.2=fb r2.2:=by
  rw[<-hT];split
  ·exact Fy _ _ _ _
  ·rfl
 rw[hT];clear hT;obtain⟨S,hS⟩:∃S,(if x.module=L.main.module/\x.decl=L.main.decl/\uj (bT 1) r1.1=false then kL d.line d.col 14 T.2 else T.2)=S:=⟨_,rfl⟩
 have p4:fb S=fb T.2:=by
  rw[<-hS];split
  ·exact JL _ _ _ _
  ·rfl
 rw[hS];clear hS;have p5:=YH L d.body [(d.param,r1.1)] S;have f5:=Fz L d.body [(d.param,r1.1)] S;generalize iE L d.body [(d.param,r1.1)] S=y at*
 have p6:=p5.coerce y.1.2 r2.1 d.body.line d.body.col y.2;have f6:=JM y.1.1 y.1.2 r2.1 d.body.line d.body.col y.2;generalize jw y.1.1 y.1.2 r2.1 d.body.line d.body.col y.2=z at*
 have f:fb z.2=fb s:=by rw[f6,f5,p4,p3,f2,f1,f0]
 have g1:z.2.funs=s.funs:=bu (·.1) f;have g3:z.2.main=s.main:=bu (·.2.2) f;have hsz:CW 1 120005 z.1:=p6.less (by have:=hd.size;omega);have key:∀nm:di,nm.size<=30000000000->∀f,f∈z.2.funs++[(⟨nm,T.1,z.1⟩:kJ)]->wY f:=λnm hnm f hf=>by
  rw[g1]at hf;rcases aU.1 hf with hf|hf
  ·exact hs f hf
  ·rw[aP.1 hf];exact⟨hsz,hnm⟩
 have hn1:=YJ x.types 0 (L.names.getD x.module.toNat (bs [])++bs [46]++d.name);have hb1:(bs [46]).size=1:=rfl;have hb2:(bs [93]).size=1:=rfl;have hn2:(if 0<x.types.length then ry x.types 0 (L.names.getD x.module.toNat (bs [])++bs [46]++d.name)++bs [93]else ry x.types 0 (L.names.getD x.module.toNat (bs [])++bs [46]++d.name)).size<=30000000000:=by
  rw[aY,aY]at hn1;split
  ·rw[aY];omega
  ·omega
 split
 ·exact⟨key _ hn2,g3⟩
 ·exact⟨key _ hn2,g3⟩
def OL{L:gq}(hG:kr L):∀(n i:Nat) (s:CS),i+n<=257->vF L s i->(∀f,f∈s.funs->wY f)->(∀f,f∈(kY L n i s).funs->wY f)/\(kY L n i s).funs.length<=257/\(kY L n i s).main=s.main
|0,i,s,hi,h,hf=>by rw[kY];exact⟨hf,by have:=h.funs;omega,rfl⟩
| n+1,i,s,hi,h,hf=>by
 rw[kY];split
 ·rename_i q;have hm:s.tab.getD i ⟨0,0,[]⟩∈s.tab:=by
   rw[aF,aD q];exact ai q
  have h1:=h.ist _ hm;have r:=zDA hG h1.1 h1.2 s hf;have q:=OL hG n (i+1) _ (by omega) (GA hG h1.1 h1.2 (by omega) h) r.1;exact⟨q.1,q.2.1,q.2.2.trans r.2⟩
 ·exact⟨hf,by have:=h.funs;omega,rfl⟩
def JV(L:gq)(i:Nat):∀(l:List ik) (k:Nat) (s:CS),(qh L i l k s).1.funs=s.funs
|[],k,s=>by rw[qh]
| d::l,k,s=>by
 rw[qh];split
 ·exact JV L i l (k+1) s
 ·simp only;split
  ·rfl
  ·rw[JV L i l (k+1)]
def GN(L:gq):∀(l:List ig) (i:Nat) (s:CS),(lh L l i s).1.funs=s.funs
|[],i,s=>by rw[lh]
|m::l,i,s=>by
 rw[lh];split
 ·exact JV L i m.decs 0 s
 ·rw[GN L l,JV]
def OM(L:gq):vF L cs0 0:=⟨by simp[cs0],by simp[cs0],by simp[cs0],by simp[cs0],by simp[cs0]⟩
def yD(p:kK):Prop:=(∀f,f∈p.funs->wY f)/\p.funs.length<=257
def zyR{L:gq}(hG:kr L):yD (yn L).1:=by
 have n0:yD xG:=⟨λf h=>(by cases h),by decide⟩
 unfold yn;simp only;split
 ·exact n0
 split
 ·exact n0
 ·have h0:=JP L.mods 0 cs0 (by simp) (OM L);have h:=OL hG 257 0 (lh L L.mods 0 cs0).1 (by omega) h0 (by rw[GN];intro f hf;cases hf);exact⟨h.1,h.2.1⟩
def YK(l:List (di × di)):yD (ll l).1:=by
 have n0:yD xG:=⟨λf h=>(by cases h),by decide⟩
 unfold ll;split
 ·exact n0
 simp only;split
 ·exact n0
 ·exact zyR (Fx l (by omega))
mutual
def JW:iJ->iJ->Bool
|.mk t n s f g,.mk t' n' s' f' g'=>decide (t=t')&&(decide (n=n')&&(decide (s=s')&&(OO f f'&&OO g g')))
def OO:List iJ->List iJ->Bool
|[],[]=>true
|a::l,b::k=>JW a b&&OO l k
|_,_=>false
end
def CY:iJ:=.mk [0,0,0,0,0,0] [] [] [] []
def leS(a b:di):Bool:=Op.bytesLess a.data.toList b.data.toList||decide (a=b)
def YL:List di->Bool
|a::b::l=> !leS b a&&YL (b::l)
|_=>true
def YM:List di->List (di × Int)->Bool
|_,[]=>true
|seen,x::l=>decide (x.2≠0)&&(!(seen.any λy=>decide (y=x.1))&&YM (x.1::seen) l)
def wZ(d:iJ)(k:Nat):Int:=d.tags.getD k 0
def OP(d:iJ):Bool:=
 decide (d.tags.length=6/\d.names.length=d.fields.length/\(d.fn.length=0\/d.fn.length=2))&&
 (decide (¬(wZ d 4≠0/\0<d.names.length\/wZ d 5≠0/\0<d.fn.length))&&(YM [] d.needs&&YL d.names))
mutual
def uD:iJ->Bool
|.mk t n s f g=>OP (.mk t n s f g)&&(YN f&&zHg g)
def YN:List iJ->Bool
|[]=>true
|c::l=>(uD c&& !JW c CY)&&YN l
def zHg:List iJ->Bool
|a::b::_=>uD a&&(uD b&& !(JW a CY&&JW b CY))
|_=>true
end
def oL(a b:di):Prop:=a.data.toList<b.data.toList
instance ltBDec (a b:di):Decidable (oL a b):=inferInstanceAs (Decidable (a.data.toList<b.data.toList))
def YO:∀(x y:List UInt8),Op.bytesLess x y=decide (x<y)
|[],[]=>by simp[Op.bytesLess]
|_::_,[]=>by simp[Op.bytesLess]
|[],_::_=>by simp[Op.bytesLess]
| a::x,b::y=>by
 rw[Op.bytesLess,YO x y];by_cases h1:a<b
 ·simp[h1,cons_lt_cons_iff]
 ·by_cases h2:b<a
  ·have:¬a=b:=λe=>by rw[e]at h2;exact UInt8.lt_irrefl _ h2
   simp[h1,h2,this,cons_lt_cons_iff]
  ·have:a=b:=UInt8.le_antisymm (UInt8.not_lt.1 h2) (UInt8.not_lt.1 h1);simp[this,cons_lt_cons_iff,UInt8.lt_irrefl]
def YP{a b c:di}(h:oL a b)(k:oL b c):oL a c:=List.lt_trans h k
def zBT{a b:di}(h:a≠b):oL a b\/oL b a:=by
 by_cases h1:oL a b
 ·exact .inl h1
 ·by_cases h2:oL b a
  ·exact .inr h2
  ·have:a.data.toList=b.data.toList:=List.le_antisymm h2 h1;exact absurd (Go.WideShapes.bytes_inj this) h
structure May (d:iJ):Prop where
 tags:d.tags.length=6
 len:d.names.length=d.fields.length
 fn:d.fn=[]\/∃f g,d.fn=[f,g]/\uD f=true/\uD g=true/\¬(f=CY/\g=CY)
 t4:wZ d 4≠0->d.names=[]
 t5:wZ d 5≠0->d.fn=[]
 needs:(∀x,x∈d.needs->x.2≠0)/\(d.needs.map (·.1)).Nodup
 names:d.names.Pairwise oL
 fields:∀x,x∈d.fields->uD x=true/\x≠CY
instance memBDec (k:di) (l:List di):Decidable (k∈l):=decidable_of_iff (l.any (λx=>decide (x=k))=true) (by simp)
section
variable {v:iJ->iJ->iJ} {a b:iJ}
end
section
variable {a b c:iJ}
end
@[simp] theorem zHZ:rV []=[]:=rfl
@[simp] theorem zH0:encI []=[]:=rfl
mutual
def JX(B:Nat):iJ->Prop
|.mk t n s f g=>n.length<=B/\f.length<=B/\g.length<=B/\CZ B f/\CZ B g
def CZ(B:Nat):List iJ->Prop
|[]=>True
|c::l=>JX B c/\CZ B l
end
def zxu(a b:di):Op.bytesLess a.data.toList b.data.toList=decide (oL a b):=YO _ _
structure Mrg (a b:List di) (i k:Nat) (l:List di):Prop where
 hi:i<=a.length
 hk:k<=b.length
 len:l.length<=i+k
 rises:l.Pairwise oL
 mem:∀x,x∈l↔x∈a.take i\/x∈b.take k
 la:∀x,x∈l->∀j (h:j<a.length),i<=j->oL x a[j]
 lb:∀x,x∈l->∀j (h:j<b.length),k<=j->oL x b[j]
@[simp] theorem jk.gt0(p:jk)(h:0<p.enc.length):p.enc[0]=.int .i64 p.tag:=rfl
@[simp] theorem jk.gt1(p:jk)(h:1<p.enc.length):p.enc[1]=.bool p.opn:=rfl
mutual
def nY:fZ->Prop
|.mk k _ s l=>s.Pairwise oL/\(k=7->(l.map iD).Pairwise (· < ·)/\2<=l.length)/\zz l
def zz:List fZ->Prop
|[]=>True
|t::l=>nY t/\zz l
end
def YQ:∀l:List fZ,zz l↔∀x,x∈l->nY x
|[]=>by simp[zz]
|t::l=>by simp[zz,YQ l]
def Aw(t:fZ):nY t↔t.names.Pairwise oL/\(t.kind=7->(t.kids.map iD).Pairwise (· < ·)/\2<=t.kids.length)/\∀x,x∈t.kids->nY x:=by
 cases t;rw[nY,YQ];try rfl
def NF(t:fZ):Prop:=jW t/\nY t
def NF.kid{t x:fZ}(h:NF t)(hx:x∈t.kids):NF x:=⟨xI h.1 hx,((Aw t).1 h.2).2.2 x hx⟩
def NF.base(k:Int)(h0:0<=k)(h4:k<=4):NF (bT k):=⟨uz k h0 h4,by simp[nY,bT,zz];omega⟩
def NF.no:NF noT:=NF.base 0 (by omega) (by omega)
def NF.bt5:NF (bT 5):=⟨(og _).2 ⟨rfl,λx h=>(by cases h),.inr (.inl ⟨rfl,rfl,by decide,λx h=>(by cases h)⟩)⟩,by simp[nY,bT,zz]⟩
def NF.fn{a b:fZ}(ha:NF a)(hb:NF b):NF (.mk 6 (bs []) [] [a,b]):=⟨(og _).2 ⟨rfl,λx h=>by
 simp only[fZ.kids,aS,dV,or_false]at h;rcases h with rfl|rfl
 ·exact ha.1
 ·exact hb.1,.inr (.inr (.inl ⟨rfl,rfl,rfl⟩))⟩,by simp[nY,zz];exact⟨ha.2,hb.2⟩⟩
def zGn{t:fZ}(h:jW t)(h0:t.kind≠0)(h7:t.kind≠7):iD t=t.kind-1/\1<=t.kind/\t.kind<=6:=by
 have hk:1<=t.kind/\t.kind<=6:=by
  rcases((og t).1 h).2.2 with⟨a,b,_⟩|⟨a,_⟩|⟨a,_⟩|⟨a,_⟩<;>omega
 refine⟨?_,hk⟩;unfold iD;rw[aA (by omega)]
def NF.field{t:fZ}(h:NF t)(k:di):NF (oO t k).1/\((oO t k).1∈t.kids\/(oO t k).1=noT):=by
 cases q:(oO t k).2 with
 |true=>have hm:=JA t.names t.kids k q;exact⟨h.kid hm,.inl hm⟩
 | false=>
  have:(oO t k).1=noT:=by
   have hz:∀(ns:List di) (ks:List fZ),(qC ns ks k).2=false->(qC ns ks k).1=noT:=λns=>by
    induction ns with
    |nil=>intro ks _;rw[qC];intros;contradiction
    | cons n ns ih=>
     intro ks;cases ks with
     |nil=>intro _;rw[qC];intros;contradiction
     |cons x ks=>
      rw[qC];split
      ·intro h;cases h
      ·exact ih ks
   exact hz _ _ q
  rw[this];exact⟨NF.no,.inr rfl⟩
structure RI (C:iJ) (ns:List di):Prop where
 len:C.names.length=C.fields.length
 names:C.names.Pairwise oL
 fields:∀x,x∈C.fields->uD x=true/\x≠CY/\JX 16 x
 needs:(∀x,x∈C.needs->x.2≠0)/\(C.needs.map (·.1)).Nodup
 an:∀x,x∈C.names->∀k,k∈ns->oL x k
 ad:∀x,x∈C.needs->∀k,k∈ns->oL x.1 k
section
variable {v:fZ->fZ->Int->iJ} {lb:Int} (l2:2<=lb) (hv:∀x y,NF x->NF y->uD (v x y lb)=true/\JX 16 (v x y lb))
include hv in
include l2 in
include l2 hv in
include l2 hv in
end
structure MI (C:iJ) (done:List Int):Prop where
 may:May C
 n4:(4:Int)∉done->wZ C 4=0/\C.needs=[]/\C.names=[]/\C.fields=[]
 n5:(5:Int)∉done->wZ C 5=0/\C.fn=[]
 sm:JX 16 C
def OQ(a b:di):Dp a b=true↔oL a b:=by unfold Dp;rw[zxu];exact decide_eq_true_iff
def YR{s:di}:∀{ns:List di},(∀n,n∈ns->oL n s)->jD s ns=ns.length
|[],_=>rfl
|n::l,h=>by rw[jD,aB ((OQ _ _).2 (h n (by simp))),YR λx hx=>h x (by simp[hx])];rfl
def YS{s:di}:∀{ns:List di},ns.Pairwise oL->ns[jD s ns]?≠some s->(∀x,x∈ns.take (jD s ns)->oL x s)/\∀x,x∈ns.drop (jD s ns)->oL s x
|[],_,_=>by simp[jD]
| n::l,hp,h=>by
 have hp':=bZ.1 hp;rw[jD]at h⊢;by_cases q:Dp n s=true
 ·rw[aB q]at h⊢;have i:=YS hp'.2 (by simpa using h);refine⟨λx hx=>?_,λx hx=>i.2 x (by simpa using hx)⟩;rw[take_succ_cons]at hx;rcases aS.1 hx with rfl|hx
  ·exact(OQ _ _).1 q
  ·exact i.1 x hx
 ·rw[aA q]at h⊢;have hne:n≠s:=λe=>h (by simp[e]);have hs:oL s n:=(zBT hne).resolve_left λe=>q ((OQ _ _).2 e);refine⟨λx hx=>(by simp at hx),λx hx=>?_⟩;rw[drop_zero]at hx;rcases aS.1 hx with rfl|hx
  ·exact hs
  ·exact YP hs (hp'.1 x hx)
def zBU{s:di}{ns:List di}(hp:ns.Pairwise oL)(h:ns[jD s ns]?≠some s):(ns.take (jD s ns)++s::ns.drop (jD s ns)).Pairwise oL:=by
 have i:=YS hp h;have hp':=hp;rw[<-bW (jD s ns) ns]at hp';have hp':=dM.1 hp';refine dM.2 ⟨hp'.1,bZ.2 ⟨i.2,hp'.2.1⟩,λx hx y hy=>?_⟩;rcases aS.1 hy with rfl|hy
 ·exact i.1 x hx
 ·exact YP (i.1 x hx) (i.2 y hy)
def YT:∀(ss:List di) (ts:List fZ) (ns:List di) (ks:List fZ),ns.Pairwise oL->(jI ss ts ns ks).1.1.Pairwise oL
|[],ts,ns,ks,h=>by rw[jI];exact h;all_goals (intros;contradiction)
|s::ss,[],ns,ks,h=>by rw[jI];exact h;all_goals (intros;contradiction)
| s::ss,t::ts,ns,ks,h=>by
 rw[jI];split
 ·exact h
 ·rename_i q;exact YT ss ts _ _ (zBU h λe=>q (.inr e))
def GQ:∀a b:List fZ,iX (a++b)=iX a+iX b
|[],b=>by simp[iX]
|t::a,b=>by rw[cons_append,iX,iX,GQ a b];omega
def YU:∀(ss:List di) (ts:List fZ) (ns:List di) (ks:List fZ),iX (jI ss ts ns ks).1.2<=iX ks+iX ts
|[],ts,ns,ks=>by rw[jI];exact dX _ _;all_goals (intros;contradiction)
|s::ss,[],ns,ks=>by rw[jI];exact dX _ _;all_goals (intros;contradiction)
| s::ss,t::ts,ns,ks=>by
 rw[jI];split
 ·exact dX _ _
 ·have i:=YU ss ts (ns.take (jD s ns)++s::ns.drop (jD s ns)) (ks.take (jD s ns)++t::ks.drop (jD s ns));have e:=GQ (ks.take (jD s ns)) (ks.drop (jD s ns));rw[bW]at e;rw[GQ,iX]at i;rw[iX];omega
def YV:∀(ss:List di) (ts:List fZ) (ns:List di) (ks:List fZ),ss.length=ts.length->ns.length=ks.length->(ns++ss).Pairwise oL->(∀x,x∈ss->mJ x=true)->jI ss ts ns ks=((ns++ss,ks++ts),true)
|[],ts,ns,ks,h0,_,_,_=>by
 cases ts with
 |nil=>rw[jI,bQ,bQ];all_goals (intros;contradiction)
 |cons _ _=>simp at h0
|s::ss,[],ns,ks,h0,_,_,_=>by simp at h0
| s::ss,t::ts,ns,ks,h0,h1,h2,h3=>by
 have hp:=YR (s:=s) (ns:=ns) λn hn=>(dM.1 h2).2.2 n hn s (by simp);rw[jI,hp,aA]
 ·rw[dC,aQ,h1,dC,aQ,YV ss ts _ _ (by simpa using h0) (by simp[h1]) (by simpa using h2) λx hx=>h3 x (by simp[hx])];simp
 ·rw[h3 s (by simp)];simp
def OT{l:List fZ}{B:Nat}(h:∀x,x∈l->ko x<=B):kE l<=B:=by
 induction l with
 |nil=>simp[kE]
 |cons t l ih=>
  rw[kE];have:=h t (by simp);have:=ih λx hx=>h x (by simp[hx]);omega
def YW(tag:Int)(l:List fZ)(ks:List fZ):(jE tag l false ks).1.2=ks\/∃x,x∈l/\iD x=tag/\(jE tag l false ks).1.2=ks++[x]:=by
 have hT:∀(l:List fZ) (ks:List fZ),(jE tag l true ks).1.2=ks:=λl=>by
  induction l with
  |nil=>intro ks;rfl
  | cons x l ih=>
   intro ks;rw[jE];split
   ·rfl
   split
   ·exact ih ks
   ·simp only[if_true];split
    ·exact ih ks
    ·rfl
 induction l with
 |nil=>exact .inl rfl
 | cons x l ih=>
  rw[jE];split
  ·exact .inl rfl
  split
  ·rcases ih with h|⟨y,h1,h2,h3⟩
   ·exact .inl h
   ·exact .inr ⟨y,by simp[h1],h2,h3⟩
  ·rename_i q;refine .inr ⟨x,by simp,Decidable.not_not.1 q,?_⟩;simp only[au,if_false];split
   ·exact hT l _
   ·rfl
def YX(p q:fZ->Bool)(h:∀x,¬(p x=true/\q x=true)):∀l:List fZ,iX (l.filter p)+iX (l.filter q)<=iX (l.filter λx=>p x||q x)
|[]=>by simp[iX]
|x::l=>by
 have i:=YX p q h l;have hx:=h x;simp only[dh];cases hp:p x<;>cases hq:q x
 ·simpa using i
 ·simp[iX];omega
 ·simp[iX];omega
 ·exact absurd ⟨hp,hq⟩ hx
def OU(p:fZ->Bool):∀l:List fZ,iX (l.filter p)<=iX l
|[]=>by simp[iX]
|x::l=>by
 have i:=OU p l;simp only[dh];split
 ·rw[iX,iX];omega
 ·rw[iX];omega
def YY(all:List fZ):∀(l:List Int) (ks:List fZ),l.Nodup->iX (pX all l ks).1<=iX ks+iX (all.filter λx=>decide (iD x∈l))
|[],ks,_=>by rw[pX];exact dX _ _
| tag::l,ks,hn=>by
 have hn':=dL.1 hn;have hf:=YX (λx=>decide (iD x=tag)) (λx=>decide (iD x∈l)) (λx ⟨a,b⟩=>hn'.1 (by simp only[aI]at a b;rw[<-a];exact b)) all;have he:(λx=>decide (iD x=tag)||decide (iD x∈l))=λx:fZ=>decide (iD x∈tag::l):=by
  funext x;rw[<-Bool.decide_or];simp only[aS]
 rw[he]at hf;have h1:iX (jE tag all false ks).1.2<=iX ks+iX (all.filter λx=>decide (iD x=tag)):=by
  rcases YW tag all ks with h|⟨x,h1,h2,h3⟩
  ·rw[h];omega
  ·rw[h3,GQ];have:=Mm (l:=all.filter λx=>decide (iD x=tag)) (x:=x) (bP.2 ⟨h1,by simpa using h2⟩);simp only[iX];omega
 rw[pX];split
 ·have i:=YY all l (jE tag all false ks).1.2 hn'.2;omega
 ·simp only;omega
def YZ(all:List fZ):∀(l:List Int) (ks:List fZ),l.Pairwise (· < ·)->(ks.map iD).Pairwise (· < ·)->(∀x,x∈ks->∀t,t∈l->iD x<t)->((pX all l ks).1.map iD).Pairwise (· < ·)
|[],ks,_,h,_=>by rw[pX];exact h
| tag::l,ks,hl,h,hk=>by
 have hl':=bZ.1 hl;have h1:((jE tag all false ks).1.2.map iD).Pairwise (· < ·)/\∀x,x∈(jE tag all false ks).1.2->∀t,t∈l->iD x<t:=by
  rcases YW tag all ks with e|⟨x,h1,h2,h3⟩
  ·rw[e];exact⟨h,λx hx t ht=>hk x hx t (by simp[ht])⟩
  ·rw[h3];refine⟨?_,λy hy t ht=>?_⟩
   ·rw[map_append];refine dM.2 ⟨h,by simp,λa ha b hb=>?_⟩;obtain⟨z,hz,rfl⟩:=bI.1 ha;simp only[map_cons,map_nil,aP]at hb;rw[hb,h2];exact hk z hz tag (by simp)
   ·rcases aU.1 hy with hy|hy
    ·exact hk y hy t (by simp[ht])
    ·rw[aP.1 hy,h2];exact hl'.1 t ht
 rw[pX];split
 ·exact YZ all l _ hl'.2 h1.1 h1.2
 ·exact h1.1
def Y0:∀l:List fZ,iX (l.flatMap jJ)<=iX l
|[]=>by simp[iX]
| t::l=>by
 rw[flatMap_cons,GQ,iX];have:=Y0 l;have:iX (jJ t)<=iw t:=by
  unfold jJ;split
  ·cases t;rw[iw];simp only[fZ.kids];omega
  ·simp[iX]
 omega
def zDu{l:List fZ}{x:fZ}(h:x∈l.flatMap jJ):ko x<=kE l:=by
 obtain⟨t,ht,hx⟩:=List.mem_flatMap.1 h;have h1:=FY ht;unfold jJ at hx;split at hx
 ·have:=FZ hx;omega
 ·rw[aP.1 hx];exact h1
def zFd(k:Int)(s:List di)(l:List fZ)(hl:∀x,x∈l->nY x)(hk:5<=k/\k<=7)(h:(lc k s l).2=true):nY (lc k s l).1/\iw (lc k s l).1<=iX l+1/\ko (lc k s l).1<=kE l+1:=by
 unfold lc at h⊢;by_cases k5:k=5
 ·rw[aB k5]at h⊢;unfold xB at h⊢;by_cases q:s.length≠l.length\/16<s.length
  ·rw[aB q]at h;cases h
  rw[aA q]at h⊢;have i:=Mj s l [] [] (by omega) rfl (by simp) h;have hc:=YU s l [] [];have hmem:∀x,x∈(jI s l [] []).1.2->x∈l:=λx hx=>by
   rcases i.2.2.2 x hx with hx|hx
   ·cases hx
   ·exact hx
  refine⟨(Aw _).2 ⟨YT _ _ _ _ (by simp),λe=>absurd e (by simp only[fZ.kind];decide),λx hx=>hl x (hmem x hx)⟩,?_,?_⟩
  ·rw[iw];simp only[iX]at hc;omega
  ·rw[ko];have:=OT (l:=(jI s l [] []).1.2) (B:=kE l) λx hx=>FY (hmem x hx);omega
 rw[aA k5]at h⊢;by_cases k6:k=6
 ·rw[aB k6]at h⊢;exact⟨(Aw _).2 ⟨by simp[fZ.names],λe=>absurd e (by simp only[fZ.kind];decide),hl⟩,by rw[iw];omega,by rw[ko];omega⟩
 rw[aA k6]at h⊢;unfold yc at h⊢;have hm:=Iu (l.flatMap jJ) [0,1,2,3,4,5] [];have hr:=YZ (l.flatMap jJ) [0,1,2,3,4,5] [] (by decide) (by simp) (by simp);have hc:=YY (l.flatMap jJ) [0,1,2,3,4,5] [] (by decide);have hc2:=OU (λx=>decide (iD x∈([0,1,2,3,4,5]:List Int))) (l.flatMap jJ);have hc3:=Y0 l;simp only at h⊢;generalize pX (l.flatMap jJ) [0,1,2,3,4,5] []=r at*
 have hw:∀y,y∈r.1->nY y/\ko y<=kE l:=λy hy=>by
  rcases hm y hy with q|⟨q1,q2⟩
  ·cases q
  ·refine⟨?_,zDu q1⟩;obtain⟨t,ht,hx⟩:=List.mem_flatMap.1 q1;unfold jJ at hx;split at hx
   ·exact((Aw t).1 (hl t ht)).2.2 y hx
   ·rw[aP.1 hx];exact hl t ht
 have hcnt:iX r.1<=iX l:=by simp only[iX]at hc;omega
 by_cases q:r.2=true
 ·rw [aB q]at h⊢;split
  ·rename_i x e;have:=hw x (by rw[e];simp);refine⟨this.1,?_,by simp only;omega⟩;rw[e]at hcnt;simp only[iX]at hcnt⊢;omega
  ·rename_i L e;have hlen:2<=r.1.length:=by
    split at h
    ·rename_i x e';exact absurd e' (e x)
    ·simp only[aI]at h
     match hr1:r.1,h,e with
     |[],h,_=>simp at h
     |[x],_,e=>exact absurd rfl (e x)
     |_::_::_,_,_=>simp
   refine⟨(Aw _).2 ⟨by simp[fZ.names],λ_=>⟨hr,hlen⟩,λx hx=>(hw x hx).1⟩,by simp only;rw[iw];omega,?_⟩;simp only;rw[ko];have:=OT (l:=r.1) (B:=kE l) λx hx=>(hw x hx).2;omega
 ·rw[aA q]at h;cases h
mutual
def OV:∀t:fZ,(ky t).2=true->nY (ky t).1/\iw (ky t).1<=iw t/\ko (ky t).1<=ko t
| .mk k n s l,h=>by
 rw[ky]at h⊢;by_cases q:5<=k/\k<=7
 ·rw[aB q]at h⊢;by_cases q2:(kD l).2=true
  ·rw[aB q2]at h⊢;have i:=Y1 l q2;have f:=zFd k s _ i.1 q h;rw[iw,ko];exact⟨f.1,by omega,by omega⟩
  ·rw[aA q2]at h;cases h
 ·rw[aA q]at h⊢;by_cases q2:0<=k/\k<=4
  ·rw[aB q2];exact⟨(NF.base k q2.1 q2.2).2,by rw[iw];simp[bT,iw,iX],by rw[ko];simp[bT,ko,kE]⟩
  ·rw[aA q2]at h;cases h
def Y1:∀l:List fZ,(kD l).2=true->(∀x,x∈(kD l).1->nY x)/\iX (kD l).1<=iX l/\kE (kD l).1<=kE l
|[],_=>by rw[kD];exact⟨λx hx=>(by cases hx),aK _,aK _⟩
| t::l,h=>by
 rw[kD]at h⊢;by_cases q:(ky t).2=true
 ·rw[aB q]at h⊢;have a:=OV t q;have b:=Y1 l h;refine⟨λx hx=>?_,by rw[iX,iX];omega,by rw[kE,kE];omega⟩;rcases aS.1 hx with rfl|hx
  ·exact a.1
  ·exact b.1 x hx
 ·rw[aA q]at h;cases h
end
def OW{t:fZ}(h:gI t=true):NF t:=by
 have e:=Dv.1 h;have f:=Ao e.1;refine⟨xy h,?_⟩;rw[<-e.2,f.2.2.2];exact(OV t f.1).1
mutual
def Y2:∀(t:fZ) (m:Int),mq t m<=iw t
|.mk k n s l,m=>by
 rw[mq,iw];have:=Y3 l m 1;omega
def Y3:∀(l:List fZ) (m n:Int),oz l m n<=n+iX l
|[],m,n=>by rw[oz,iX];omega
| t::l,m,n=>by
 rw[oz,iX];split
 ·have a:=Y2 t (m-n);have b:=Y3 l m (n+mq t (m-n));omega
 ·omega
end
def Y4(f:fZ->Int)(B:Int):∀(l:List fZ) (h:Int),0<=h->h<=B->(∀x,x∈l->f x=min B (ko x))->l.foldl (λh k=>if h<f k then f k else h) h=max h (min B (kE l))
|[],h,h0,hB,_=>by simp only[foldl_nil,kE];omega
|t::l,h,h0,hB,hf=>by
 have ht:=hf t (by simp);rw[foldl_cons,Y4 f B l _ (by split<;>omega) (by split<;>omega) λx hx=>hf x (by simp[hx]),ht,kE];split<;>omega
def Y5:∀(n:Nat) (t:fZ),nK (n+1) t=min ((n:Int)+1) (ko t)
|0,t=>by rw[nK];have:=Vg t;omega
|n+1,t=>by
 rw[nK,Y4 _ ((n:Int)+1) t.kids 0 (by omega) (by omega) λx _=>Y5 n x];have:ko t=kE t.kids+1:=by cases t;rw[ko];try rfl
 rw[this];omega
def OX(t:fZ):nK 17 t=min (17:Int) (ko t):=by rw[Y5 16 t];try rfl
def zBV{l:List fZ}(h:∀x,x∈l->x.kind≠7):l.flatMap jJ=l:=by
 induction l with
 |nil=>rfl
 |cons t l ih=>rw[flatMap_cons,ih λx hx=>h x (by simp[hx])];unfold jJ;rw[aA (h t (by simp))];try rfl
def Y6(tag:Int):∀(l:List fZ) (had:Bool) (ks:List fZ),(∀x,x∈l->x.kind≠0/\iD x≠tag)->jE tag l had ks=((had,ks),true)
|[],had,ks,_=>rfl
|x::l,had,ks,h=>by
 rw[jE,aA (h x (by simp)).1,aB (h x (by simp)).2];exact Y6 tag l had ks λy hy=>h y (by simp[hy])
def Y7(tag:Int):∀(l:List fZ) (ks:List fZ),(l.map iD).Pairwise (· < ·)->(∀x,x∈l->x.kind≠0)->(jE tag l false ks).1.2=ks++l.filter (λx=>decide (iD x=tag))/\(jE tag l false ks).2=true
|[],ks,_,_=>⟨by simp[jE],rfl⟩
| x::l,ks,hp,h0=>by
 rw[map_cons]at hp;have hp':=bZ.1 hp;rw[jE,aA (h0 x (by simp))];by_cases q:iD x=tag
 ·have hno:∀y,y∈l->y.kind≠0/\iD y≠tag:=λy hy=>⟨h0 y (by simp[hy]),λe=>by have:=hp'.1 (iD y) (bI.2 ⟨y,hy,rfl⟩);omega⟩
  have hf:l.filter (λx=>decide (iD x=tag))=[]:=dW.2 λy hy=>by simpa using (hno y hy).2
  rw[aA (by simpa using q)];have hs:nA x ((ks++[x]).getLastD noT)=true:=by
   rw[getLastD_concat];exact Mc x
  simp only[au,if_false];rw[aB hs,Y6 tag l true _ hno];simp[q,hf]
 ·rw[aB q];have i:=Y7 tag l ks hp'.2 λy hy=>h0 y (by simp[hy]);rw[i.1];exact⟨by simp[q],i.2⟩
def Y8(all:List fZ)(hp:(all.map iD).Pairwise (· < ·))(h0:∀x,x∈all->x.kind≠0):∀(l:List Int) (ks:List fZ),pX all l ks=(ks++l.flatMap λt=>all.filter λx=>decide (iD x=t),true)
|[],ks=>by rw[pX];simp
|t::l,ks=>by
 have i:=Y7 t all ks hp h0;rw[pX,aB i.2,Y8 all hp h0 l,i.1];simp
def JY:∀(l:List Int) (all:List fZ),l.Pairwise (· < ·)->(all.map iD).Pairwise (· < ·)->(∀x,x∈all->iD x∈l)->(l.flatMap λt=>all.filter λx=>decide (iD x=t))=all
|[],all,_,_,h=>by
 cases all with
 |nil=>rfl
 |cons x l=>exact absurd (h x (by simp)) (by simp)
| t ::l,all,hl,hp,h=>by
 have hl':=bZ.1 hl;have skip:∀x:fZ,iD x=t->∀r:List fZ,(l.flatMap λt=>(x::r).filter λy=>decide (iD y=t))=l.flatMap λt=>r.filter λy=>decide (iD y=t):=λx hx r=>by
  rw[flatMap_def,flatMap_def];congr 1;refine map_congr_left λu hu=>?_;have:=hl'.1 u hu;rw[dh,aA (by simp only[aI];omega)]
 rw[flatMap_cons];cases all with
 |nil=>rw[JY l [] hl'.2 (by simp) (by simp)];rfl
 | cons x r=>
  rw[map_cons]at hp;have hp':=bZ.1 hp;have gt:∀y,y∈r->iD x<iD y:=λy hy=>hp'.1 _ (bI.2 ⟨y,hy,rfl⟩);by_cases q:iD x=t
  ·have hf:r.filter (λx=>decide (iD x=t))=[]:=dW.2 λy hy=>by have:=gt y hy;simp only[aI];omega
   rw[dh,aB (by simpa using q),hf,skip x q r,JY l r hl'.2 hp'.2 λy hy=>?_]
   ·rfl
   ·have:=gt y hy;rcases aS.1 (h y (by simp[hy]))with e|e
    ·omega
    ·exact e
  ·have hx:iD x∈l:=(aS.1 (h x (by simp))).resolve_left q;have hxt:=hl'.1 _ hx;have hf:(x::r).filter (λx=>decide (iD x=t))=[]:=dW.2 λy hy=>by
    simp only[aI];rcases aS.1 hy with rfl|hy
    ·exact q
    ·have:=gt y hy;omega
   rw[hf,JY l (x::r) hl'.2 (by rw[map_cons];exact hp) λy hy=>?_]
   ·rfl
   ·refine(aS.1 (h y hy)).resolve_left λe=>?_;rcases aS.1 hy with rfl|hy
    ·exact q e
    ·have:=gt y hy;omega
def zDv{t:fZ}(h:NF t)(hk:5<=t.kind/\t.kind<=7):lc t.kind t.names t.kids=(t,true):=by
 have ho:=(Aw t).1 h.2;have hw:=(og t).1 h.1;have eta:∀t:fZ,t=.mk t.kind t.name t.names t.kids:=λt=>by cases t;rfl
 have e:=eta t;rw[hw.1]at e;unfold lc;rcases hw.2.2 with⟨a,b,_⟩|⟨a,b,c,d⟩|⟨a,b,c⟩|⟨a,b,c,d⟩
 ·omega
 ·rw[aB a];unfold xB;rw[aA (by omega),YV t.names t.kids [] [] b rfl (by simpa using ho.1) d];simp only[nil_append];rw[<-a,<-e]
 ·rw[aA (by omega),aB a,c];rw[a,b]at e;rw[<-e];try rfl
 ·rw[aA (by omega),aA (by omega)];have h2:=ho.2.1 a;have hm:=zBV (l:=t.kids) λx hx=>by have:=d x hx;omega
  have h0:∀x,x∈t.kids->x.kind≠0:=λx hx=>by have:=d x hx;omega
  have ht:∀x,x∈t.kids->iD x∈([0,1,2,3,4,5]:List Int):=λx hx=>by
   have:=d x hx;have:=(zGn (h.kid hx).1 (by omega) (by omega)).1;simp only[aS,dV,or_false];omega
  unfold yc;rw[hm,Y8 t.kids h2.1 h0,nil_append,JY _ _ (by decide) h2.1 ht];simp only[if_true];rw[a,b]at e;split
  ·rename_i x q;rw[q]at h2;exact absurd h2.2 (by simp)
  ·rw[<-e];simp;omega
mutual
def Y9:∀t:fZ,NF t->ky t=(t,true)
| .mk k n s l,h=>by
 have hl:=Ya l λx hx=>h.kid hx;rw[ky];by_cases q:5<=k/\k<=7
 ·rw[aB q,hl,aB rfl];exact zDv h q
 ·rw[aA q];rcases((og _).1 h.1).2.2 with⟨a,b,c,d⟩|⟨a,_⟩|⟨a,_⟩|⟨a,_⟩
  ·have hn:=((og _).1 h.1).1;simp only[fZ.kind,fZ.names,fZ.kids,fZ.name]at a b c d hn;rw[aB ⟨a,b⟩,c,d,hn];try rfl
  all_goals simp only[fZ.kind]at a;omega
def Ya:∀l:List fZ,(∀x,x∈l->NF x)->kD l=(l,true)
|[],_=>by rw[kD]
|t::l,h=>by
 have a:=Y9 t (h t (by simp));have b:=Ya l λx hx=>h x (by simp[hx]);rw[kD,a,b,aB rfl]
end
def C8{t:fZ}(h:NF t)(hc:iw t<=200)(hd:ko t<=16):gI t=true:=by
 have a:=Y2 t 201;have b:=OX t;rw[Dv];unfold kS;rw[aA (by omega),Y9 t h,aB rfl];exact⟨rfl,rfl⟩
def Yb{t:fZ}(h:gI t=true):ko t<=16:=by
 have e:=(Ao (Dv.1 h).1).2.2.1;have b:=OX t;omega
def Ay{t:fZ}(h:(kS t).2=0):gI (kS t).1=true:=by
 have f:=Ao h;have o:=OV t f.1;have b:=OX t;have c:=Ml t 201 (by omega);rw[f.2.2.2];exact C8 ⟨Mk t f.1,o.1⟩ (by omega) (by omega)
def GR{t x:fZ}(h:gI t=true)(hx:x∈t.kids):gI x=true:=by
 have a:=Iw h;have b:=Yb h;have c:=FZ hx;have d:iw x<iw t:=by
  cases t;rw[iw];have:=Mm hx;simp only[fZ.kids]at this;omega
 exact C8 ((OW h).kid hx) (by omega) (by omega)
def pM(k:Int)(h0:0<=k)(h4:k<=4):gI (bT k)=true:=C8 (NF.base k h0 h4) (by simp[bT,iw,iX]) (by simp[bT,ko,kE])
def xK:gI noT=true:=pM 0 (by omega) (by omega)
def Yc:gI (bT 5)=true:=C8 NF.bt5 (by simp[bT,iw,iX]) (by simp[bT,ko,kE])
def zDw:gI (jG noT noT)=true:=C8 (NF.fn NF.no NF.no) (by decide) (by decide)
def zDx{s:di}(h:mJ s=true):gI (.mk 5 (bs []) [s] [noT])=true:=
 C8 ⟨(og _).2 ⟨rfl,λx hx=>by rw[aP.1 hx];exact qR,.inr (.inl ⟨rfl,rfl,by simp[fZ.names],λx hx=>by rw[aP.1 hx];exact h⟩)⟩,by simp[nY,zz];exact NF.no.2⟩ (by simp[iw,iX,noT]) (by simp[ko,kE,noT])
def Yd{t:fZ}(h:gI t=true)(k:di):gI (oO t k).1=true:=by
 rcases((OW h).field k).2 with e|e
 ·exact GR h e
 ·rw[e];exact xK
def Ye{a b:fZ}(ha:gI a=true)(hb:gI b=true):gI (vR a b)=true:=by
 unfold vR;split
 ·exact hb
 split
 ·exact ha
 split
 ·exact xK
 split
 ·exact xK
 ·split
  ·rename_i h;exact Ay h
  ·exact xK
def zAB(p:fZ->Bool)(l:List fZ):iX (l.filter p)<=iX l:=OU p l
def zAC{t:fZ}(h:gI t=true)(tag:Int):gI (qy t tag).1=true/\gI (qy t tag).2=true:=by
 unfold qy;split
 ·exact⟨h,h⟩
 rename_i q;split
 ·split
  ·exact⟨h,h⟩
  ·rename_i q5;by_cases q4:tag=4
   ·subst q4;exact⟨Yc,h⟩
   ·exact⟨pM _ (by omega) (by omega),h⟩
 rename_i h0;split
 ·exact⟨h,h⟩
 rename_i hp;split
 ·exact⟨h,h⟩
 rename_i h7;have h7:t.kind=7:=by omega
 have hm:=(F5 (l:=kG t) (tag:=tag) (by simpa using hp)).1;have hk:(kT (kG t) tag).1.t∈t.kids:=by
  unfold kG at hm⊢;rw[aA h0,aA (by omega)]at hm⊢;obtain⟨x,hx,e⟩:=bI.1 hm;rw[<-e];exact hx
 have n1:=GR h hk;have hsub:∀x,x∈t.kids.filter (λk=>decide (iD k≠tag))->x∈t.kids:=λx hx=>(bP.1 hx).1;split
 ·rename_i r e;exact⟨n1,GR h (hsub r (by rw[e];simp))⟩
 ·rename_i L e;refine⟨n1,?_⟩;have nf:=OW h;have hw:=(og t).1 nf.1;have ho:=((Aw t).1 nf.2).2.1 h7;have hw7:t.kids.length<=6/\∀x,x∈t.kids->1<=x.kind/\x.kind<=6:=by
   rcases hw.2.2 with⟨_,a,_⟩|⟨a,_⟩|⟨a,_⟩|⟨_,_,a,b⟩
   ·omega
   ·omega
   ·omega
   ·exact⟨a,b⟩
  have hlen:2<=(t.kids.filter λk=>decide (iD k≠tag)).length:=by
   have hpos:0<(t.kids.filter λk=>decide (iD k≠tag)).length:=by
    match hl:t.kids,ho with
    |[],ho=>exact absurd ho.2 (by simp)
    |[_],ho=>exact absurd ho.2 (by simp)
    |a::b::r,ho=>
     have hab:=(bZ.1 ho.1).1 (iD b) (by simp);by_cases qa:iD a=tag
     ·exact length_pos_of_mem (a:=b) (bP.2 ⟨by simp,by simp only[aI];omega⟩)
     ·exact length_pos_of_mem (a:=a) (bP.2 ⟨by simp,by simpa using qa⟩)
   match hf:t.kids.filter (λk=>decide (iD k≠tag)),hpos,e with
   |[],hp,_=>simp at hp
   |[x],_,e=>exact absurd rfl (e x)
   |_::_::_,_,_=>simp
  have hc:=zAB (λk=>decide (iD k≠tag)) t.kids;have hle:=length_filter_le (λk=>decide (iD k≠tag)) t.kids;have c1:=Iw h;have c2:=Yb h;have e1:iw t=iX t.kids+1:=by cases t;rw[iw];try rfl
  have e2:ko t=kE t.kids+1:=by cases t;rw[ko];try rfl
  have hd:=OT (l:=t.kids.filter λk=>decide (iD k≠tag)) (B:=kE t.kids) λx hx=>FY (hsub x hx);refine C8 ⟨(og _).2 ⟨rfl,λx hx=>(nf.kid (hsub x hx)).1,.inr (.inr (.inr ⟨rfl,rfl,?_,λx hx=>hw7.2 x (hsub x hx)⟩))⟩,(Aw _).2 ⟨by simp[fZ.names],λ_=>⟨?_,hlen⟩,λx hx=>(nf.kid (hsub x hx)).2⟩⟩ (by simp only;rw[iw];omega) (by simp only;rw[ko];omega)
  ·show(t.kids.filter _).length<=6;omega
  ·show((t.kids.filter _).map iD).Pairwise _;exact ho.1.sublist (List.filter_sublist.map iD)
def Yf{t:fZ}{vars:List di}{wth:List fZ}(h:(oV t vars wth).2=0):gI (oV t vars wth).1=true:=by
 unfold oV at h⊢;split
 ·rename_i q;rw[aB q]at h;cases h
 rename_i q;rw[aA q]at h;split
 ·rename_i q;rw[aB q]at h;cases h
 rename_i q;rw[aA q]at h;split
 ·rename_i q;rw[aB q]at h;exact Ay h
 ·rename_i q;rw[aA q]at h;cases h
def mG(M G:Nat)(k n:Int)(ns:List di)(ts:List fZ)(q:Nat):Prop:=
((k=0\/k=1\/k=3\/k=4\/k=20)/\q=0)\/(k=2/\q=0/\(n=0\/n=1))\/(k=6/\q=0/\0<=n/\n<G)\/((k=5\/k=9\/k=16\/k=17\/k=19)/\q=1)\/(k=12/\q=1/\0<=n/\n<6)\/((k=7\/k=10\/k=14\/k=15\/k=18)/\q=2)\/(k=13/\q=2/\0<=n/\n<11)\/(k=11/\q=3)\/(k=8/\ns.length=q/\ns.Nodup)\/(k=21/\q=1/\0<=n/\n<M/\∃a b,ts=[a,b]/\gI a=true/\gI b=true)
def mG.cast{M G:Nat}{n:Int}{ns:List di}{a b:fZ}(h0:0<=n)(h1:n<M)(ha:gI a=true)(hb:gI b=true):mG M G 21 n ns [a,b] 1:=by
 simp[mG];exact⟨h0,h1,a,b,⟨rfl,rfl⟩,ha,hb⟩
mutual
def jv(M G:Nat):fw->Prop
|.mk k n tx _ ns ts cs ks=>(mG M G k n ns ts ks.length/\cs=[]/\CV tx ns)/\jN M G ks
def jN(M G:Nat):List fw->Prop
|[]=>True
|c::l=>jv M G c/\jN M G l
end
structure nI (s s':CS):Prop where
 e:s'.e=0->s.e=0
 sites:s.sites.length<=s'.sites.length
 tab:s.tab.length<=s'.tab.length
def nI.refl(s:CS):nI s s:=⟨id,aK _,aK _⟩
def nI.trans{a b c:CS}(h:nI a b)(k:nI b c):nI a c:=⟨λe=>h.e (k.e e),aj h.sites k.sites,aj h.tab k.tab⟩
def ED(a b e:Int)(s:CS):nI s (kL a b e s):=by
 unfold kL;split
 ·rename_i q;exact⟨λ_=>q,aK _,aK _⟩
 ·exact nI.refl s
def xL{a b e:Int}{s:CS}(h:e≠0):(kL a b e s).e≠0:=by
 unfold kL;split
 ·exact h
 ·rename_i q;exact q
section
variable (M G:Nat)
def oM(s:CS)(P:Prop)(s':CS):Prop:=nI s s'/\(s'.e=0->s'.sites.length<=M->s'.tab.length<=G->P)
variable {M G}
def oM.ret{s:CS}{P:Prop}(h:P):oM M G s P s:=⟨nI.refl s,λ_ _ _=>h⟩
def oM.bind{s t u:CS}{P Q:Prop}(h:oM M G s P t)(k:oM M G t Q u):oM M G s (P/\Q) u:=
⟨h.1.trans k.1,λe a b=>⟨h.2 (k.1.e e) (aj k.1.sites a) (aj k.1.tab b),k.2 e a b⟩⟩
def oM.imp{s t:CS}{P Q:Prop}(h:oM M G s P t)(f:P->Q):oM M G s Q t:=⟨h.1,λe a b=>f (h.2 e a b)⟩
def oM.fail{s:CS}{P:Prop}{a b e:Int}(h:e≠0):oM M G s P (kL a b e s):=⟨ED a b e s,λz=>absurd z (xL h)⟩
def C9(t:fZ)(a b:Int)(s:CS):oM M G s (gI (iZ t a b s).1=true) (iZ t a b s).2:=by
 unfold iZ;simp only;split
 ·exact .fail (by decide)
 ·rename_i q;exact .ret (Yf (by simpa using q))
def JZ(t:fZ)(a b:Int)(s:CS):oM M G s (gI (nR t a b s).1=true/\(kS t).2=0) (nR t a b s).2:=by
 unfold nR;simp only;split
 ·exact .fail (by decide)
 ·rename_i q;have q:(kS t).2=0:=by simpa using q
  exact .ret ⟨Ay q,q⟩
def GU(x:fw)(t u:fZ)(a b:Int)(s:CS):oM M G s (jv M G x->gI t=true->gI u=true->jv M G (lH x t u a b s).1) (lH x t u a b s).2:=by
 unfold lH;split
 ·exact .ret λh _ _=>h
 ·rename_i q;have q:s.e=0:=by simpa using q
  refine⟨⟨λ_=>q,by simp,aK _⟩,λ_ h _ hx ht hu=>?_⟩;simp only[aR,length_cons,length_nil]at h;simp only[jv,jN,uT,and_true];exact⟨.cast (by omega) (by omega) ht hu,hx⟩
def Az(x:fw)(t u:fZ)(a b:Int)(s:CS):oM M G s (jv M G x->gI t=true->gI u=true->jv M G (jw x t u a b s).1) (jw x t u a b s).2:=by
 unfold jw;split
 ·exact .ret λh _ _=>h
 split
 ·exact .ret λh _ _=>h
 split
 ·exact GU x t u a b s
 ·exact .fail (by decide)
def Yg(u:fZ)(hu:gI u=true)(a b:Int)(x:(fw × fZ) × CS):oM M G x.2 (jv M G x.1.1/\gI x.1.2=true->jv M G (jV u a b x).1.1/\gI (jV u a b x).1.2=true) (jV u a b x).2:=by
 unfold jV;split
 ·exact(GU _ _ _ _ _ _).imp λh k=>⟨h k.1 k.2 hu,hu⟩
 ·exact .ret id
def J2(a b:Int):∀(ts l:List fZ) (s:CS),nI s (pG a b ts l s).2
|[],l,s=>by rw[pG];exact nI.refl s
|t::ts,l,s=>by
 rw[pG];split
 ·exact nI.refl s
 ·exact(C9 (M:=0) (G:=0) t a b s).1.trans (J2 a b ts _ _)
def zEX{l:List jR}{x:jR}:l.length<=(jq 256 l x).2.length/\((jq 256 l x).1.2=0->0<=(jq 256 l x).1.1/\(jq 256 l x).1.1<(jq 256 l x).2.length):=by
 have h:=EB (λy=>xw y x) l;unfold jq;split
 ·exact⟨aK _,λz=>absurd z (by simp)⟩
 split
 ·rename_i q;refine⟨aK _,λ_=>⟨q,?_⟩⟩;simp only;omega
 split
 ·exact⟨aK _,λz=>absurd z (by simp)⟩
 ·exact⟨by simp,λ_=>by simp;omega⟩
def mM(env:Env):Prop:=∀v,v∈env->gI v.2=true
def mM.more{env:Env}(h:mM env)(x:di){t:fZ}(ht:gI t=true):mM (env++[(x,t)]):=λv hv=>by
 rcases aU.1 hv with hv|hv
 ·exact h v hv
 ·rw[aP.1 hv];exact ht
def mM.get{env:Env}(h:mM env)(k:Nat):gI (env.getD k (bs [],noT)).2=true:=by
 rw[aF];cases e:env[k]? with
 |none=>exact xK
 |some v=>exact h v (aW e)
variable (M G)
def jA(i:Inf):Prop:=∀env s,oM M G s (mM env->jv M G (i env s).1.1/\gI (i env s).1.2=true) (i env s).2
variable {M G}
section
variable (L:gq)
def Yh(a b:Int)(e:iO)(l:List fZ)(s:CS):oM M G s (jv M G (p8 L a b e l s).1.1/\gI (p8 L a b e l s).1.2=true) (p8 L a b e l s).2:=by
 unfold p8;split
 ·exact .fail (by decide)
 ·rename_i q;simp only;have h:=zEX (l:=s.tab) (x:=⟨e.module,e.decl,l⟩);generalize jq 256 s.tab ⟨e.module,e.decl,l⟩=r at*
  have k:nI s {s with tab:=r.2}:=⟨id,aK _,h.1⟩
  split
  ·rename_i q2;exact⟨k.trans (ED _ _ _ _),λz=>absurd z (xL q2)⟩
  ·rename_i q2;have q2:=h.2 (by simpa using q2);refine⟨k,λ_ _ hG=>⟨?_,?_⟩⟩
   ·simp only[cN,jv,jN,uT,and_true];simp[mG];simp only at hG;omega
   ·have q:(pF L e l).2=true:=by simpa using q
    unfold pF at q⊢;simp only[aC,aI]at q;exact Ay q.2.2
def zEY(n:fo):jA M G (sS L n):=λenv s=>by
 unfold sS;simp only;split
 ·exact .ret λhe=>⟨by simp[cN,jv,jN,mG],he.get _⟩
 split
 ·exact .fail (by decide)
 split
 ·exact .fail (by decide)
 split
 ·exact .fail (by decide)
 split
 ·exact(Yh L _ _ _ _ _).imp λh _=>h
 split
 ·rename_i q;exact⟨J2 _ _ _ _ _,λz=>absurd z q⟩
 split
 ·rename_i q;exact⟨(J2 _ _ _ _ _).trans (ED _ _ _ _),λz=>absurd z (xL q)⟩
 ·have h:=Yh (M:=M) (G:=G) L n.line n.col (pY (L.scopes.getD s.module.toNat []) n.text).1 (pG n.line n.col n.types [] s).1 (pG n.line n.col n.types [] s).2;exact⟨(J2 _ _ _ _ _).trans h.1,λe a b _=>h.2 e a b⟩
def zG8(n a:fo){ia ib:Inf}(ha:jA M G ia)(hb:jA M G ib):jA M G (nS n a ia ib):=λenv s=>by
 unfold nS;simp only;have h1:=ha env s;generalize ia env s=x at*
 obtain⟨y,hy⟩:∃y,(if 0<n.types.length/\x.2.e=0 then(((jw x.1.1 x.1.2 (iZ (n.types.getD 0 noT) n.line n.col x.2).1 a.line a.col (iZ (n.types.getD 0 noT) n.line n.col x.2).2).1,(iZ (n.types.getD 0 noT) n.line n.col x.2).1),(jw x.1.1 x.1.2 (iZ (n.types.getD 0 noT) n.line n.col x.2).1 a.line a.col (iZ (n.types.getD 0 noT) n.line n.col x.2).2).2)else x)=y:=⟨_,rfl⟩
 have h2:oM M G x.2 (jv M G x.1.1/\gI x.1.2=true->jv M G y.1.1/\gI y.1.2=true) y.2:=by
  rw[<-hy];split
  ·exact((C9 _ _ _ _).bind (Az _ _ _ _ _ _)).imp λh k=>⟨h.2 k.1 k.2 h.1,h.1⟩
  ·exact .ret id
 rw[hy];refine(h1.bind (h2.bind (hb (env++[(n.text,y.1.2)]) y.2))).imp λh he=>?_;have y1:=h.2.1 (h.1 he);have z1:=h.2.2 (he.more _ y1.2);exact⟨by simp only[cK,jv,jN,uT,and_true];exact⟨by simp[mG],y1.1,z1.1⟩,z1.2⟩
def OY(n a:fo){ia:Inf}(ha:jA M G ia):jA M G (ul n a ia):=λenv s=>by
 unfold ul;simp only;have h1:=C9 (M:=M) (G:=G) (n.types.getD 0 noT) n.line n.col s;generalize iZ (n.types.getD 0 noT) n.line n.col s=p at*
 obtain⟨q,hq⟩:∃q,(if 1<n.types.length/\p.2.e=0 then iZ (n.types.getD 1 noT) n.line n.col p.2 else(noT,p.2))=q:=⟨_,rfl⟩
 have h2:oM M G p.2 (gI q.1=true) q.2:=by
  rw[<-hq];split
  ·exact C9 _ _ _ _
  ·exact .ret xK
 rw[hq];have h3:=ha (env++[(n.text,p.1)]) q.2;generalize ia (env++[(n.text,p.1)]) q.2=x at*
 obtain⟨y,hy⟩:∃y,(if 1<n.types.length then(((jw x.1.1 x.1.2 q.1 a.line a.col x.2).1,q.1),(jw x.1.1 x.1.2 q.1 a.line a.col x.2).2)else x)=y:=⟨_,rfl⟩
 have h4:oM M G x.2 (jv M G x.1.1/\gI x.1.2=true->gI q.1=true->jv M G y.1.1) y.2:=by
  rw[<-hy];split
  ·exact(Az _ _ _ _ _ _).imp λh k kq=>h k.1 k.2 kq
  ·exact .ret λk _=>k.1
 rw[hy];refine(((h1.bind h2).bind h3).bind (h4.bind (JZ _ _ _ _))).imp λh he=>?_;exact⟨by simp only[cK,jv,jN,uT,and_true];exact⟨by simp[mG],h.2.1 (h.1.2 (he.more _ h.1.1.1)) h.1.1.2⟩,h.2.2.1⟩
def OZ{t:fZ}(h:gI t=true)(i:Nat):gI (t.kids.getD i noT)=true:=by
 rw[aF];cases e:t.kids[i]? with
 |none=>exact xK
 |some v=>exact GR h (aW e)
def g_call(n b:fo){ia ib:Inf}(ha:jA M G ia)(hb:jA M G ib):jA M G (um n b ia ib):=λenv s=>by
 unfold um;simp only;have h1:=(ha env s).bind (Yg (jG noT noT) zDw n.line n.col (ia env s));generalize jV (jG noT noT) n.line n.col (ia env s)=x at*
 split
 ·exact⟨h1.1.trans (ED _ _ _ _),λz=>absurd z (xL (by decide))⟩
 ·refine(h1.bind ((hb env x.2).bind (Az _ _ _ _ _ _))).imp λh he=>?_;have x1:=h.1.2 (h.1.1 he);have y1:=h.2.1 he;exact⟨by simp only[cK,jv,jN,uT,and_true];exact⟨by simp[mG],x1.1,h.2.2 y1.1 y1.2 (OZ x1.2 0)⟩,OZ x1.2 1⟩
def zG9(n:fo)(hn:mJ n.text=true)(hz:n.text.size<=256){ia:Inf}(ha:jA M G ia):jA M G (nT n ia):=λenv s=>by
 unfold nT;simp only;have h1:=ha env s;generalize ia env s=x at*
 obtain⟨y,hy⟩:∃y,(if x.1.2.kind=0 then lH x.1.1 x.1.2 (.mk 5 (bs []) [n.text] [noT]) n.line n.col x.2 else(x.1.1,x.2))=y:=⟨_,rfl⟩
 have h2:oM M G x.2 (jv M G x.1.1/\gI x.1.2=true->jv M G y.1) y.2:=by
  rw[<-hy];split
  ·exact(GU _ _ _ _ _ _).imp λh k=>h k.1 k.2 (zDx hn)
  ·exact .ret λk=>k.1
 rw[hy]
 have key:(mM env->jv M G x.1.1/\gI x.1.2=true)/\(jv M G x.1.1/\gI x.1.2=true->jv M G y.1)->mM env->jv M G (cT 9 n.text [y.1])/\gI (oO x.1.2 n.text).1=true:=λh he=>
  ⟨by simp only[cT,jv,jN,true_and,and_true];exact⟨⟨by simp[mG],uB hz⟩,h.2 (h.1 he)⟩,Yd (h.1 he).2 _⟩
 split
 ·exact(h1.bind h2).imp key
 ·exact⟨(h1.bind h2).1.trans (ED _ _ _ _),λz=>absurd z (xL (by decide))⟩
def zGd(n:fo)(hz:n.text.size<=256){ia ib:Inf}(ha:jA M G ia)(hb:jA M G ib):jA M G (uo n ia ib):=λenv s=>by
 unfold uo;simp only;have h1:=(ha env s).bind (Yg (bT 5) Yc n.line n.col (ia env s));generalize jV (bT 5) n.line n.col (ia env s)=x at*
 split
 ·exact⟨h1.1.trans (ED _ _ _ _),λz=>absurd z (xL (by decide))⟩
 ·refine(h1.bind ((hb env x.2).bind (JZ _ _ _ _))).imp λh he=>?_;exact⟨by simp only[cT,jv,jN,true_and,and_true];exact⟨⟨by simp[mG],uB hz⟩,(h.1.2 (h.1.1 he)).1,(h.2.1 he).1⟩,h.2.2.1⟩
def O0(q:fo){env:Env}(h:mM env):mM (lF q env).1/\mM (lF q env).2:=by
 unfold lF;split
 ·simp only;have k:=zAC (h.get (nL env (q.kids.getD 0 mZ).text).toNat) q.n;exact⟨λv hv=>(dY hv).elim (h v) λe=>by rw[e];exact k.1,λv hv=>(dY hv).elim (h v) λe=>by rw[e];exact k.2⟩
 ·exact⟨h,h⟩
def O1(q a b:fo){iq ia ib:Inf}(hq:jA M G iq)(ha:jA M G ia)(hb:jA M G ib):jA M G (uq q a b iq ia ib):=λenv s=>by
 unfold uq;simp only;have h1:=(hq env s).bind (Az (iq env s).1.1 (iq env s).1.2 (bT 2) q.line q.col (iq env s).2);generalize jw (iq env s).1.1 (iq env s).1.2 (bT 2) q.line q.col (iq env s).2=x at*
 have h2:=ha (lF q env).1 x.2;generalize ia (lF q env).1 x.2=y at*
 have h3:=hb (lF q env).2 y.2;generalize ib (lF q env).2 y.2=z at*
 refine(h1.bind (h2.bind (h3.bind ((Az _ _ _ _ _ _).bind (Az _ _ _ _ _ _))))).imp λh he=>?_;have q1:=h.1.1 he;have y1:=h.2.1 (O0 q he).1;have z1:=h.2.2.1 (O0 q he).2;have j:=Ye y1.2 z1.2;exact⟨by simp only[cK,jv,jN,uT,and_true];exact⟨by simp[mG],h.1.2 q1.1 q1.2 (pM 2 (by omega) (by omega)),h.2.2.2.1 y1.1 y1.2 j,h.2.2.2.2 z1.1 z1.2 j⟩,j⟩
def O3(n:fo){ia:Inf}(ha:jA M G ia):jA M G (ut n ia):=λenv s=>by
 unfold ut;simp only;have h1:=ha env s;generalize ia env s=x at*
 split
 ·exact h1
 have h2:=h1.bind (C9 (M:=M) (G:=G) (n.types.getD 0 noT) n.line n.col x.2);generalize iZ (n.types.getD 0 noT) n.line n.col x.2=u at*
 split
 ·exact h2.imp λh he=>⟨(h.1 he).1,h.2⟩
 rename_i q;have e0:u.2.e=0:=ae λz=>q (.inl z);obtain⟨y,hy⟩:∃y,(if x.1.2.kind≠0 then lH x.1.1 x.1.2 noT n.line n.col u.2 else(x.1.1,u.2))=y:=⟨_,rfl⟩
 have h3:oM M G u.2 (jv M G x.1.1/\gI x.1.2=true->jv M G y.1) y.2:=by
  rw[<-hy];split
  ·exact(GU _ _ _ _ _ _).imp λh k=>h k.1 k.2 xK
  ·exact .ret λk=>k.1
 have h4:x.1.2.kind≠0->oM M G y.2 (0<=y.1.n/\y.1.n<M) y.2:=λk=>by
  rw[aB k]at hy;unfold lH at hy;rw[aA (λz=>z e0)]at hy;rw[<-hy];exact⟨nI.refl _,λ_ a _=>by simp only[aR,length_cons,length_nil]at a;simp only[fw.n];omega⟩
 rw[hy];split
 ·exact(h2.bind h3).imp λh he=>⟨h.2 (h.1.1 he),h.1.2⟩
 split
 ·exact(h2.bind (h3.bind (GU _ _ _ _ _ _))).imp λh he=>⟨h.2.2 (h.2.1 (h.1.1 he)) (h.1.1 he).2 h.1.2,h.1.2⟩
 ·rename_i k0;refine(h2.bind (h3.bind (h4 k0))).imp λh he=>⟨?_,h.1.2⟩
  simp only[jv,jN,uT,and_true];exact⟨.cast h.2.2.1 h.2.2.2 xK h.1.2,h.2.1 (h.1.1 he)⟩
def yz(n:fo){i:Inf}(hi:jA M G i)(t:fZ)(ht:gI t=true)(env:Env)(s:CS):oM M G s (mM env->jv M G (lg n i t env s).1) (lg n i t env s).2:=by
 unfold lg;exact((hi env s).bind (Az _ _ _ _ _ _)).imp λh he=>h.2 (h.1 he).1 (h.1 he).2 ht
theorem O4(n a b:fo){ia ib:Inf}(ha:jA M G ia)(hb:jA M G ib):jA M G (opC n a b ia ib):=λenv s=>by
 have b2:=pM 2 (by omega) (by omega);have b3:=pM 3 (by omega) (by omega);have b4:=pM 4 (by omega) (by omega);unfold opC;simp only;split
 ·exact((yz a ha _ b2 env s).bind (yz b hb _ b2 env _)).imp λh he=>⟨by simp only[cK,jv,jN,uT,and_true];exact⟨by simp[mG],h.1 he,by simp[cN,jv,jN,mG],h.2 he⟩,b2⟩
 split
 ·exact((yz a ha _ b2 env s).bind (yz b hb _ b2 env _)).imp λh he=>⟨by simp only[cK,jv,jN,uT,and_true];exact⟨by simp[mG],h.1 he,h.2 he,by simp[cN,jv,jN,mG]⟩,b2⟩
 split
 ·exact((ha env s).bind (hb env _)).imp λh he=>⟨by simp only[cK,jv,jN,uT,and_true];exact⟨by simp[mG],(h.1 he).1,(h.2 he).1⟩,b2⟩
 split
 ·exact((yz a ha _ b4 env s).bind (yz b hb _ b4 env _)).imp λh he=>⟨by simp only[cK,jv,jN,uT,and_true];exact⟨by simp[mG],h.1 he,h.2 he⟩,b4⟩
 ·refine((yz a ha _ b3 env s).bind (yz b hb _ b3 env _)).imp λh he=>⟨?_,by split<;>assumption⟩
  simp only[jv,jN,uT,and_true];have o:0<=Al n.text/\Al n.text<11:=by
   have:=EB (λx=>decide (x=n.text)) uu;have e:uu.length=11:=rfl;unfold Al;omega
  exact⟨by simp[mG];exact o,h.1 he,h.2 he⟩
def zHa(n a:fo)(hn:n.kind=12->0<=n.n/\n.n<6){ia:Inf}(ha:jA M G ia):jA M G (nC n a ia):=λenv s=>by
 have b2:=pM 2 (by omega) (by omega);have b3:=pM 3 (by omega) (by omega);unfold nC;split
 ·exact(yz a ha _ b2 env s).imp λh he=>⟨by simp only[cK,jv,jN,uT,and_true];exact⟨by simp[mG],h he⟩,b2⟩
 split
 ·exact(yz a ha _ b3 env s).imp λh he=>⟨by simp only[cK,jv,jN,uT,and_true];exact⟨by simp[mG],h he⟩,b3⟩
 split
 ·rename_i k;exact(ha env s).imp λh he=>⟨by simp only[jv,jN,uT,and_true];exact⟨by simp[mG];exact hn k,(h he).1⟩,b2⟩
 ·exact(ha env s).imp λh he=>⟨by simp only[cK,jv,jN,uT,and_true];exact⟨by simp[mG],(h he).1⟩,pM 1 (by omega) (by omega)⟩
def Yi:∀(l:List fo),(∀x,x∈l->jA M G (iE L x))->∀env s,oM M G s (mM env->jN M G (lM L l env s).1.1/\(lM L l env s).1.1.length=(lM L l env s).1.2.length) (lM L l env s).2
|[],_,env,s=>by rw[lM];exact .ret λ_=>⟨trivial,rfl⟩
|n::l,h,env,s=>by
 rw[lM];exact((h n (by simp) env s).bind (Yi l (λx hx=>h x (by simp[hx])) env _)).imp λh he=>⟨⟨(h.1 he).1,(h.2 he).1⟩,by simp[(h.2 he).2]⟩
def O5:∀(l had:List di),lI had l=false->had.Nodup->(had++l).Nodup
|[],had,_,h=>by simpa using h
| n::l,had,e,h=>by
 rw[lI,Bool.or_eq_false_iff]at e;have:=O5 l (had++[n]) e.2 (bz.2 ⟨h,by simp,λa ha b hb z=>by
  rw[aP]at hb;have:=e.1;rw[any_eq_false]at this
  exact this a ha (by simp[z,hb])⟩)
 simpa using this
def Yj:∀l:List fZ,(kD l).2=true->(kD l).1.length=l.length
|[],_=>rfl
| t::l,h=>by
 rw[kD]at h⊢;split at h
 ·rename_i q;rw[aB q,length_cons,length_cons,Yj l h]
 ·cases h
def Yk{ns:List di}{ts:List fZ}(h:(kS (.mk 5 (bs []) ns ts)).2=0):ns.length=ts.length:=by
 have f:=(Ao h).1;rw[ky,aB (by omega)]at f;split at f
 ·rename_i q;have e:(kD ts).1.length=ts.length:=Yj ts q;rw[lc,aB rfl]at f;unfold xB at f;split at f
  ·cases f
  ·rename_i z;omega
 ·cases f
def zHb(n:fo)(hz:CV (bs []) n.names)(h:∀x,x∈n.kids->jA M G (iE L x)):jA M G (oI n (lM L n.kids)):=λenv s=>by
 unfold oI;simp only;obtain⟨s1,e1⟩:∃s1,(if lI [] n.names=true then kL n.line n.col 8 s else s)=s1:=⟨_,rfl⟩
 have h1:oM M G s (n.names.Nodup) s1:=by
  rw[<-e1];split
  ·exact .fail (by decide)
  ·rename_i q;exact .ret (by simpa using O5 n.names [] (by simpa using q) (by simp))
 rw[e1];refine(h1.bind ((Yi L n.kids h env s1).bind (JZ _ _ _ _))).imp λh he=>?_;have k:=h.2.1 he;have e:=Yk h.2.2.2;exact⟨by simp only[jv,true_and];exact⟨⟨by simp[mG,k.2,e];exact h.1,hz⟩,k.1⟩,h.2.2.1⟩
def J3{j:Inf}(h:jA M G j):jA M G (jl j):=λenv s=>by
 unfold jl;split
 ·rename_i q;exact⟨nI.refl s,λz=>absurd z q⟩
 ·exact h env s
def J4(n:fo)(hz:CV n.text n.names)(hn:n.kind=2->n.n=0\/n.n=1){rest:Inf}(hr:jA M G rest)(h:∀x,x∈n.kids->jA M G (iE L x)):jA M G (nX L n rest):=λenv s=>by
 unfold nX;split
 ·exact .ret λ_=>⟨by simp[cN,jv,jN,mG],pM 3 (by omega) (by omega)⟩
 split
 ·exact .ret λ_=>⟨by simp[cT,jv,jN,mG];exact uB hz.1,pM 4 (by omega) (by omega)⟩
 split
 ·rename_i k;exact .ret λ_=>⟨by simp[cN,jv,jN,mG,hn k],pM 2 (by omega) (by omega)⟩
 split
 ·exact .ret λ_=>⟨by simp[cN,jv,jN,mG],pM 1 (by omega) (by omega)⟩
 split
 ·exact .ret λ_=>⟨by simp[cN,jv,jN,mG],pM 3 (by omega) (by omega)⟩
 split
 ·exact zEY L n env s
 split
 ·exact zHb L n ⟨Av,hz.2⟩ h env s
 ·exact hr env s
def zDe(n:fo)(hn:jr n)(h:∀x,x∈n.kids->jA M G (iE L x)):jA M G (iE L n):=by
 obtain⟨k,tx,nn,ln,cl,ts,ns,ks⟩:=n;rw[jr]at hn;obtain⟨n9,n2,n12,hz,_⟩:=hn
 match ks,h with
 |[],h=>
  rw[Fv];exact J3 (J4 L (.mk k tx nn ln cl ts ns []) hz n2 (λenv s=>.ret λ_=>⟨by simp[noC,cN,jv,jN,mG],xK⟩) h)
 |[a],h=>
  have ha:=h a (by simp[fo.kids]);rw[yw];refine J3 (J4 L (.mk k tx nn ln cl ts ns [a]) hz n2 (λenv s=>?_) h);unfold yu;split
  ·exact OY _ _ ha env s
  split
  ·rename_i k9;exact zG9 (.mk k tx nn ln cl ts ns [a]) (n9 k9) hz.1 ha env s
  split
  ·exact O3 _ ha env s
  ·exact zHa (.mk k tx nn ln cl ts ns [a]) _ n12 ha env s
 |[a,b],h=>
  have ha:=h a (by simp[fo.kids]);have hb:=h b (by simp[fo.kids]);rw[zx];refine J3 (J4 L (.mk k tx nn ln cl ts ns [a,b]) hz n2 (λenv s=>?_) h);unfold zw;split
  ·exact zG8 _ _ ha hb env s
  split
  ·exact g_call _ _ ha hb env s
  split
  ·exact zGd (.mk k tx nn ln cl ts ns [a,b]) hz.1 ha hb env s
  ·exact O4 _ _ _ ha hb env s
 |a::b::c::l,h=>
  rw[EA];exact J3 (J4 L (.mk k tx nn ln cl ts ns (a::b::c::l)) hz n2 (O1 a b c (h a (by simp[fo.kids])) (h b (by simp[fo.kids])) (h c (by simp[fo.kids]))) h)
mutual
def Yl:∀n:fo,jr n->jA M G (iE L n)
|.mk k tx nn ln cl ts ns ks,h=>zDe L _ h (Ym ks (by rw[jr]at h;exact h.2.2.2.2))
def Ym:∀l:List fo,vT l->∀x,x∈l->jA M G (iE L x)
|[],_,x,hx=>by cases hx
|n::l,h,x,hx=>by
 rw[vT]at h;rcases aS.1 hx with e|e
 ·rw[e];exact Yl n h.1
 ·exact Ym l h.2 x e
end
end
end
def uE(l:List ig):Prop:=∀m,m∈l->∀d,d∈m.decs->jr d.body
def Yn:∀(l:List (di × di)) (i:Nat) (ns:List di) (ms:List ig) (bad:List iA),uE ms->uE (qQ l i ns ms bad).1.2
|[],i,ns,ms,bad,h=>by rw[qQ];exact h
|s::l,i,ns,ms,bad,h=>by
 rw[qQ];refine Yn l _ _ _ _ λm hm=>?_;rcases aU.1 hm with hm|hm
 ·exact h m hm
 ·rw[aP.1 hm];exact zBP s.2
def Yo(l:List (di × di)):uE (qz l).1.mods:=by
 have h0:uE Aj.mods:=λm hm=>by cases hm
 have hg:uE (tX l).1.2:=by
  unfold tX;split
  ·intro m hm;cases hm
  ·exact Yn l 0 [] [] [] λm hm=>by cases hm
 unfold qz;simp only;repeat' split
 all_goals first|exact h0|exact hg
def zBk{L:gq}(hG:kr L)(hs:uE L.mods){m k:Int}(h:jX L ⟨bs [],m,k⟩):jr (qD L m k).body:=by
 obtain⟨mn,kn,M,e1,e2,g1,g2,_⟩:=Dy hG.good h;exact hs M (aW g1) _ (aW g2)
section
variable {M G:Nat}
theorem zG1{L:gq}(hG:kr L)(hs:uE L.mods){x:jR}(hx:jX L ⟨bs [],x.module,x.decl⟩)(s:CS):
  (s.sites.length<=(kP L x s).sites.length/\s.tab.length<=(kP L x s).tab.length/\(kP L x s).funs.length=s.funs.length+1)/\
  ((kP L x s).bad=[]->s.bad=[]/\((kP L x s).sites.length<=M->(kP L x s).tab.length<=G->(∀f,f∈s.funs->jv M G f.body)->∀f,f∈(kP L x s).funs->jv M G f.body)):=by
 have hd:=zBk hG hs hx;have f0:fb (rH L x s)=fb s:=rfl;have k0:(rH L x s).sites=s.sites/\(rH L x s).tab=s.tab:=⟨rfl,rfl⟩
 unfold kP;unfold rH at f0 k0;simp only;generalize qD L x.module x.decl=d at*
 generalize ({s with module:=x.module,vars:=d.vars.map (·.1),wth:=x.types,e:=0}:CS)=s0 at*
 have f1:=Au (d.types.getD 0 noT) d.line d.col s0;have r1:=C9 (M:=M) (G:=G) (d.types.getD 0 noT) d.line d.col s0;generalize iZ (d.types.getD 0 noT) d.line d.col s0=a at*
 have f2:=Au (d.types.getD 1 noT) d.line d.col a.2;have r2:=C9 (M:=M) (G:=G) (d.types.getD 1 noT) d.line d.col a.2;generalize iZ (d.types.getD 1 noT) d.line d.col a.2=b at*
 obtain⟨T,hT⟩:∃T,(if b.2.e=0 then nR (jG a.1 b.1) d.line d.col b.2 else(jG a.1 b.1,b.2))=T:=⟨_,rfl⟩
 have p3:fb T.2=fb b.2/\oM M G b.2 True T.2:=by
  rw[<-hT];split
  ·exact⟨Fy _ _ _ _,(JZ _ _ _ _).imp λ_=>trivial⟩
  ·exact⟨rfl,.ret trivial⟩
 rw[hT];clear hT;obtain⟨S,hS⟩:∃S,(if x.module=L.main.module/\x.decl=L.main.decl/\uj (bT 1) a.1=false then kL d.line d.col 14 T.2 else T.2)=S:=⟨_,rfl⟩
 have p4:fb S=fb T.2/\oM M G T.2 True S:=by
  rw[<-hS];split
  ·exact⟨JL _ _ _ _,.fail (by decide)⟩
  ·exact⟨rfl,.ret trivial⟩
 rw[hS];clear hS;have f5:=Fz L d.body [(d.param,a.1)] S;have r5:=Yl (M:=M) (G:=G) L d.body hd [(d.param,a.1)] S;generalize iE L d.body [(d.param,a.1)] S=y at*
 have f6:=JM y.1.1 y.1.2 b.1 d.body.line d.body.col y.2;have r6:=Az (M:=M) (G:=G) y.1.1 y.1.2 b.1 d.body.line d.body.col y.2;generalize jw y.1.1 y.1.2 b.1 d.body.line d.body.col y.2=z at*
 have f:fb z.2=fb s:=by rw[f6,f5,p4.1,p3.1,f2,f1,f0]
 have g1:z.2.funs=s.funs:=bu (·.1) f;have g2:z.2.bad=s.bad:=bu (·.2.1) f;have r:=((r1.bind r2).bind (p3.2.bind p4.2)).bind (r5.bind r6);have r:=r.imp λh=>h.2.2 (h.2.1 λv hv=>by rw[aP.1 hv];exact h.1.1.1).1 (h.2.1 λv hv=>by rw[aP.1 hv];exact h.1.1.1).2 h.1.1.2;rw[<-k0.1,<-k0.2];generalize (if 0<x.types.length then ry x.types 0 (L.names.getD x.module.toNat (bs [])++bs [46]++d.name)++bs [93]else ry x.types 0 (L.names.getD x.module.toNat (bs [])++bs [46]++d.name))=nm;split
 ·exact⟨⟨r.1.sites,r.1.tab,by simp[g1]⟩,λh=>absurd h (by simp)⟩
 ·rename_i q;refine⟨⟨r.1.sites,r.1.tab,by simp[g1]⟩,λh=>⟨by rw[<-g2];exact h,λh1 h2 h3 f hf=>?_⟩⟩;have hf:f∈z.2.funs++[(⟨nm,T.1,z.1⟩:kJ)]:=hf;rw[g1]at hf;rcases aU.1 hf with hf|hf
  ·exact h3 f hf
  ·rw[aP.1 hf];exact r.2 (by simpa using q) h1 h2
def O6{L:gq}(hG:kr L)(hs:uE L.mods):∀(n i:Nat) (s:CS),i+n<=257->vF L s i->
 (s.sites.length<=(kY L n i s).sites.length/\s.tab.length<=(kY L n i s).tab.length)/\
 ((kY L n i s).bad=[]->s.bad=[]/\((kY L n i s).sites.length<=M->(kY L n i s).tab.length<=G->(∀f,f∈s.funs->jv M G f.body)->∀f,f∈(kY L n i s).funs->jv M G f.body))/\
 (i+n=257->s.funs.length=i->(kY L n i s).tab.length<=(kY L n i s).funs.length)
|0,i,s,hi,h=>by
 rw[kY];exact⟨⟨aK _,aK _⟩,λe=>⟨e,λ_ _ h=>h⟩,λe1 e2=>by have:=h.tab;omega⟩
| n+1,i,s,hi,h=>by
 rw[kY];split
 ·rename_i q;have hm:s.tab.getD i ⟨0,0,[]⟩∈s.tab:=by
   rw[aF,aD q];exact ai q
  have h1:=h.ist _ hm;have k:=zG1 (M:=M) (G:=G) hG hs h1.1 s;have r:=O6 hG hs n (i+1) _ (by omega) (GA hG h1.1 h1.2 (by omega) h);refine⟨⟨aj k.1.1 r.1.1,aj k.1.2.1 r.1.2⟩,λe=>?_,λe1 e2=>r.2.2 (by omega) (by rw[k.1.2.2];omega)⟩;have r2:=r.2.1 e;have k2:=k.2 r2.1;exact⟨k2.1,λa b hf=>r2.2 a b (k2.2 (aj r.1.1 a) (aj r.1.2 b) hf)⟩
 ·rename_i q;exact⟨⟨aK _,aK _⟩,λe=>⟨e,λ_ _ h=>h⟩,λe1 e2=>by omega⟩
end
def Yp{L:gq}(hG:kr L):∀(n i:Nat) (s:CS),i+n<=257->vF L s i->(kY L n i s).sites.length<=1000000000
|0,i,s,hi,h=>by rw[kY];have:=h.sites;omega
| n+1,i,s,hi,h=>by
 rw[kY];split
 ·rename_i q;have hm:s.tab.getD i ⟨0,0,[]⟩∈s.tab:=by
   rw[aF,aD q];exact ai q
  have h1:=h.ist _ hm;exact Yp hG n (i+1) _ (by omega) (GA hG h1.1 h1.2 (by omega) h)
 ·have:=h.sites;omega
structure O7 (p:kK):Prop where
 good:yD p
 ok:∀f,f∈p.funs->jv p.sites.length p.funs.length f.body
 sites:p.sites.length<=1000000000
def Yq{M G G':Nat}(h:G<=G'):∀(n:Nat) (c:fw),iQ c<=n->jv M G c->jv M G' c
|0,.mk _ _ _ _ _ _ _ ks,e,_=>by rw[iQ]at e;omega
| n +1,.mk k _ _ _ ns ts _ ks,e,hc=>by
 rw[iQ]at e;rw[jv]at hc⊢;refine⟨⟨?_,hc.1.2⟩,?_⟩
 ·have:=hc.1.1;unfold mG at this⊢;rcases this with h|h|h|h|h|h|h|h|h|h
  ·exact .inl h
  ·exact .inr (.inl h)
  ·exact .inr (.inr (.inl (by omega)))
  ·exact .inr (.inr (.inr (.inl h)))
  ·exact .inr (.inr (.inr (.inr (.inl h))))
  ·exact .inr (.inr (.inr (.inr (.inr (.inl h)))))
  ·exact .inr (.inr (.inr (.inr (.inr (.inr (.inl h))))))
  ·exact .inr (.inr (.inr (.inr (.inr (.inr (.inr (.inl h)))))))
  ·exact .inr (.inr (.inr (.inr (.inr (.inr (.inr (.inr (.inl h))))))))
  ·exact .inr (.inr (.inr (.inr (.inr (.inr (.inr (.inr (.inr h))))))))
 ·have key:∀l:List fw,gu l<=n->jN M G l->jN M G' l:=λl=>by
   induction l with
   |nil=>intro _ _;trivial
   |cons c l ih=>
    intro e h;rw[gu]at e;rw[jN]at h⊢;exact⟨Yq (by assumption) n c (by omega) h.1,ih (by omega) h.2⟩
  exact key ks (by omega) hc.2
def zyy{l:List (di × di)}(h:(ll l).2=true):O7 (ll l).1:=by
 have hg:=YK l;unfold ll at h hg⊢;split at h
 ·cases h
 rename_i q1;rw[aA q1]at hg⊢;simp only at h hg⊢;split at h
 ·cases h
 rename_i q2;rw[aA q2]at hg⊢;have hG:=Fx l (by omega);have hs:=Yo l;generalize (qz l).1=L at*
 have h0:=JP L.mods 0 cs0 (by simp) (OM L);have hf0:(lh L L.mods 0 cs0).1.funs=[]:=by rw[GN];try rfl
 unfold yn at h hg⊢;simp only at h hg⊢;by_cases q3:0<(lh L L.mods 0 cs0).2.length
 ·rw[aB q3]at h;simp at h;rw[h]at q3;simp at q3
 rw[aA q3]at h hg⊢;by_cases q4:0<(kY L 257 0 (lh L L.mods 0 cs0).1).bad.length
 ·rw[aB q4]at h;simp at h;rw[h]at q4;simp at q4
 rw[aA q4]at h hg⊢;have hb:(kY L 257 0 (lh L L.mods 0 cs0).1).bad=[]:=aa.1 (by omega);have hk:=O6 (M:=(kY L 257 0 (lh L L.mods 0 cs0).1).sites.length) (G:=(kY L 257 0 (lh L L.mods 0 cs0).1).tab.length) hG hs 257 0 _ (by omega) h0;have ht:=Yp hG 257 0 _ (by omega) h0;refine⟨hg,λf hf=>?_,ht⟩;have hl:=hk.2.2 (by omega) (by rw[hf0];rfl);exact Yq hl _ _ (aK _) ((hk.2.1 hb).2 (aK _) (aK _) (λf hf=>by rw[hf0]at hf;cases hf) f hf)
end Go.Gr
namespace Go.Gr
open Go.Abs Go.Proofs
inductive Val where
|null
|bool (b:Bool)
|int (n:Int)
|str (s:di)
|rcd (ns:List di) (vs:List Val)
|fn (body:fw) (sc:List Val)
def Val.tag:Val->Int
|.null=>0|.bool _=>1|.int _=>2|.str _=>3|.rcd _ _=>4|.fn _ _=>5
structure RS where
 input:List Int
 fuel:Int
 lines:List di
 ticks:Nat
inductive O (α:Type) where
|ok (a:α) (s:RS)
|over (how n:Int) (s:RS)
|bad
def O.bind{α β:Type}(x:O α)(f:α->RS->O β):O β:=match x with
|.ok a s=>f a s
|.over h n s=>.over h n s
|.bad=>.bad
abbrev J5:di:=bs [112,114,105,110,116,32]
abbrev Yr:di:=bs [114,101,97,100,32]
structure jP where
 bin:Int->Int->Int->Int × Int
 told:Val->di
 show_:Int->di
 cst:fZ->fZ->Int->Option (List Int)
def nZ{α:Type}(s:RS):O α:=.over 5 0 s
def lW:List di->List Val->di->Option Val
|n::ns,v::vs,x=>if n=x then some v else lW ns vs x
|_,_,_=>none
section
variable (X:jP) (P:List kJ)
def o5(op:Int)(a b:Val)(s:RS):O Val:=match a,b with
|.int m,.int n=>if(X.bin op m n).2=23 then .over 2 1 s else if 9<=op then .ok (.bool (decide ((X.bin op m n).1=1))) s else .ok (.int (X.bin op m n).1) s
|_,_=>nZ s
def yE(a b:Val)(s:RS):O Val:=
 if a.tag≠b.tag then .ok (.bool false) s else if 4<=a.tag then .over 2 3 s else match a,b with
  |.str u,.str v=>.ok (.bool (decide (u=v))) s
  |_,_=>.ok (.bool (decide (X.told a=X.told b))) s
def qJ(a b:Val)(s:RS):O Val:=match a,b with
|.str u,.str v=>if 4096<u.size+v.size then .over 2 4 s else .ok (.str (u++v)) s
|_,_=>nZ s
def oh(c:fw)(sc:List Val)(s:RS):O Val:=
 if c.kind=0 then .ok (.int c.n) s
 else if c.kind=1 then .ok (.str c.text) s
 else if c.kind=2 then .ok (.bool (decide (c.n=1))) s
 else if c.kind=4 then(match sc[c.n.toNat]? with|some v=>.ok v s|none=>.bad)
 else if c.kind=6 then(match P[c.n.toNat]? with|some f=>.ok (.fn f.body []) s|none=>.bad)
 else if c.kind=20 then(match s.input with|n::l=>.ok (.int n) {s with input:=l,lines:=s.lines++[Yr++X.show_ n]}|[]=>.over 2 2 s)
 else .ok .null s
def lC(c:fw)(v:Val)(s:RS):O Val:=
 if c.kind=9 then(match v with|.rcd ns vs=>(match lW ns vs c.text with|some w=>.ok w s|none=>nZ s)|_=>nZ s)
 else if c.kind=12 then .ok (.bool (decide (v.tag=c.n))) s
 else if c.kind=16 then(match v with|.bool b=>.ok (.bool (!b)) s|_=>nZ s)
 else if c.kind=17 then o5 X 1 (.int 0) v s
 else if c.kind=21 then(if 4<=v.tag then .bad else match X.cst (c.types.getD 0 noT) (c.types.getD 1 noT) (IntKind.i64.wrap (IntKind.i64.wrap (2*c.n)+2))with
  |none=>.bad
  |some l=>if l.getD v.tag.toNat 0=0 then .ok v s else .over 1 (l.getD v.tag.toNat 0) s)
 else if c.kind=22 then .bad
 else .ok .null {s with lines:=s.lines++[J5++X.told v]}
def EE(ord:List di->List di)(x:di)(v:Val)(ns:List di)(vs:List Val):Val:=
.rcd (x::(ord ns).filter λn=>decide (n≠x)) (v::((ord ns).filter λn=>decide (n≠x)).map λn=>(lW ns vs n).getD .null)
def lw(ord:List di->List di)(ev:fw->List Val->RS->O Val)(c:fw)(a b:Val)(s:RS):O Val:=
 if c.kind=7 then(if s.fuel<=0 then .over 3 0 s else match a with
  |.fn body sc=>ev body (sc++[b]) {s with fuel:=s.fuel-1}
  |_=>nZ {s with fuel:=s.fuel-1})
 else if c.kind=10 then(match a with|.rcd ns vs=>.ok (EE ord c.text b ns vs) {s with ticks:=s.ticks+1}|_=>nZ s)
 else if c.kind=13 then o5 X c.n a b s
 else if c.kind=14 then yE X a b s
 else qJ a b s
def mX(f:fw->RS->O Val):List fw->RS->O (List Val)
|[],s=>.ok [] s
|c::l,s=>(f c s).bind λv s=>(mX f l s).bind λvs s=>.ok (v::vs) s
def iT(c:fw)(i:Nat):fw:=c.kids.getD i noC
def iG(ord:List di->List di):Nat->fw->List Val->RS->O Val
|0,_,_,_=>.bad
| N+1,c,sc,s=>
 if c.kind=5 then .ok (.fn (iT c 0) sc) s
 else if c.kind=11 then(iG ord N (iT c 0) sc s).bind λv s=>match v with
  |.bool b=>iG ord N (iT c (if b then 1 else 2)) sc s
  |_=>nZ s
 else if c.kind=18 then(iG ord N (iT c 0) sc s).bind λv s=>iG ord N (iT c 1) (sc++[v]) s
 else if c.kind=8 then(mX (λk s=>iG ord N k sc s) c.kids s).bind λvs s=>.ok (.rcd c.names vs) s
 else(mX (λk s=>iG ord N k sc s) c.kids s).bind λvs s=>match vs with
  |[]=>oh X P c sc s
  |[a]=>lC X c a s
  |a::b::_=>lw X ord (iG ord N) c a b s
end
inductive VT (F:fZ->fZ->fw->List Val->Prop):fZ->Val->Prop where
|any {t v} (h:t.kind=0):VT F t v
|base {t v q} (h0:t.kind≠0) (h:kT (kG t) v.tag=(q,true)) (h4:v.tag<4):VT F t v
|rcd {t ns vs q} (w:di->Val) (h0:t.kind≠0) (h:kT (kG t) 4=(q,true)) (hw:∀x k,(x,k)∈q.t.names.zip q.t.kids->lW ns vs x=some (w x)) (hk:∀x k,(x,k)∈q.t.names.zip q.t.kids->VT F k (w x)):VT F t (.rcd ns vs)
|fn {t b sc q} (h0:t.kind≠0) (h:kT (kG t) 5=(q,true)) (hf:F (jg q.t) (jh q.t) b sc):VT F t (.fn b sc)
def VT.mono{F G:fZ->fZ->fw->List Val->Prop}(hg:∀a b c d,F a b c d->G a b c d){t:fZ}{v:Val}(h:VT F t v):VT G t v:=by
 induction h with
 |any h=>exact .any h
 |base h0 h h4=>exact .base h0 h h4
 |rcd w h0 h hw _ ih=>exact .rcd w h0 h hw ih
 |fn h0 h hf=>exact .fn h0 h (hg _ _ _ _ hf)
section
variable (X:jP) (P:List kJ) (ord:List di->List di) (K:Nat)
def FN(n:Nat):fZ->fZ->fw->List Val->Prop:=λA B b sc=>
 iQ b<=K/\∀m,(hm:m<n)->∀a,VT (FN m) A a->∀s:RS,s.fuel.toNat=m->∀N,m*(K+1)+iQ b<=N->
  match iG X P ord N b (sc++[a]) s with
  |.ok v s'=>∃j,∃(hj:j<=m),s'.fuel.toNat=(j:Nat)/\VT (FN j) B v
  |.over h _ _=>h≠1/\h≠5
  |.bad=>False
termination_by n
decreasing_by all_goals omega
def kC(n:Nat)(B:fZ):O Val->Prop
|.ok v s'=>∃j,j<=n/\s'.fuel.toNat=(j:Nat)/\VT (FN X P ord K j) B v
|.over h _ _=>h≠1/\h≠5
|.bad=>False
def GV(n:Nat)(A B:fZ)(b:fw)(sc:List Val):FN X P ord K n A B b sc↔iQ b<=K/\∀m,m<n->∀a,VT (FN X P ord K m) A a->∀s:RS,s.fuel.toNat=m->∀N,m*(K+1)+iQ b<=N->kC X P ord K m B (iG X P ord N b (sc++[a]) s):=by
 rw[FN];refine and_congr Iff.rfl (forall_congr' λm=>forall_congr' λhm=>forall_congr' λa=>forall_congr' λha=>forall_congr' λs=>forall_congr' λhs=>forall_congr' λN=>forall_congr' λhN=>?_);unfold kC;cases iG X P ord N b (sc++[a]) s with
 |ok v s'=>simp only[exists_prop]
 |over h n s=>exact Iff.rfl
 |bad=>exact Iff.rfl
def zE5{m n:Nat}(h:m<=n)(a b:fZ)(c:fw)(d:List Val)(hf:FN X P ord K n a b c d):FN X P ord K m a b c d:=by
 rw[GV]at hf⊢;exact⟨hf.1,λk hk=>hf.2 k (by omega)⟩
def J6{m n:Nat}(h:m<=n){t:fZ}{v:Val}(hv:VT (FN X P ord K n) t v):VT (FN X P ord K m) t v:=hv.mono (zE5 X P ord K h)
end
end Go.Gr
namespace Go.Gr
open Go.Abs Go.Proofs List
def J7{l:List jk}{g:Int}{q:jk}(h:kT l g=(q,true)):q∈l/\q.tag=g:=by
 unfold kT at h;split at h
 ·rename_i p e;have:p=q:=(Prod.mk.inj h).1;subst this;have:=find?_some e;exact⟨mem_of_find?_eq_some e,by simpa using this⟩
 ·cases h
def GX{t:fZ}(h0:t.kind≠0)(h7:t.kind≠7){g:Int}{q:jk}(h:kT (kG t) g=(q,true)):q.t=t/\iD t=g:=by
 have:=J7 h;unfold kG at this;rw[aA h0,aB h7]at this;have e:=aP.1 this.1;subst e;exact⟨rfl,this.2⟩
def zGp{t:fZ}(h7:t.kind=7){g:Int}{q:jk}(h:kT (kG t) g=(q,true)):q.t∈t.kids/\iD q.t=g:=by
 have:=J7 h;unfold kG at this;rw[aA (by omega),aA (by omega)]at this;obtain⟨k,hk,e⟩:=bI.1 this.1;subst e;exact⟨hk,this.2⟩
def AA{t:fZ}{g:Int}(h:iD t=g)(h0:0<=g):t.kind=g+1:=by
 unfold iD at h;split at h<;>omega
def GY:∀{ns:List di} {ks:List fZ} {s:di} {k:fZ},qC ns ks s=(k,true)->(s,k)∈ns.zip ks
|[],ks,s,k,h=>by rw[qC]at h;cases h;all_goals (intros;contradiction)
|_::_,[],s,k,h=>by rw[qC]at h;cases h;all_goals (intros;contradiction)
| n::ns,k'::ks,s,k,h=>by
 rw[qC]at h;split at h
 ·rename_i e;have:=(Prod.mk.inj h).1;subst this;subst e;simp
 ·have:=GY h;simp only[zip_cons_cons,aS];exact .inr this
def O8{rc:fZ->fZ->Bool}{m:fZ}:∀{ns:List di} {ks:List fZ},xE rc m ns ks=true->∀x k,(x,k)∈ns.zip ks->∃k',oO m x=(k',true)/\rc k' k=true
|[],ks,_,x,k,h=>by simp at h
|_::_,[],_,x,k,h=>by simp at h
|n::ns,k0::ks,hb,x,k,h=>by
 rw[xE,aC,aC]at hb;simp only[zip_cons_cons,aS,ax]at h;rcases h with⟨rfl,rfl⟩|h
 ·exact⟨(oO m x).1,by rw[<-hb.1],hb.2.1⟩
 ·exact O8 hb.2.2 x k h
def Val.tag_in(v:Val):0<=v.tag/\v.tag<=5:=by cases v<;>simp[Val.tag]
section
variable (X:jP) (P:List kJ) (ord:List di->List di) (K:Nat)
def J8:∀(d:Nat) (a b:fZ),qP false d a b=true->∀n v,VT (FN X P ord K n) a v->VT (FN X P ord K n) b v
|0,a,b,h,n,v,hv=>by rw[qP]at h;cases h
| d+1,a,b,h,n,v,hv=>by
 rw[qP]at h;split at h
 ·rename_i q;simp only[Bool.false_or,aI]at h;exact .any (by omega)
 rename_i q;have a0:a.kind≠0:=λz=>q (.inl z);have b0:b.kind≠0:=λz=>q (.inr z);rw[aZ]at h;have key:∀{g:Int} {p:jk},kT (kG a) g=(p,true)->∃r,kT (kG b) g=(r,true)/\xE (qP false d) p.t r.t.names r.t.kids=true/\(r.tag=5->qP false d (jg r.t) (jg p.t)=true/\qP false d (jh p.t) (jh r.t)=true):=λ{g} {p} hp=>by
  have i:=J7 hp;have k:=h p i.1;simp only[aC,bS]at k;rw[i.2]at k;refine⟨(kT (kG b) g).1,by rw[<-k.1],k.2.1,λe=>?_⟩;rcases k.2.2 with z|z
  ·simp[e]at z
  ·exact z
 cases hv with
 |any h0=>exact absurd h0 a0
 |base h0 hp h4=>
  obtain⟨r,hr,_⟩:=key hp;exact .base b0 hr h4
 | rcd w h0 hp hw hk=>
  obtain⟨r,hr,hf,_⟩:=key hp;refine .rcd w b0 hr (λx k hx=>?_) λx k hx=>?_
  ·obtain⟨k',e,_⟩:=O8 hf x k hx;exact hw x k' (GY e)
  ·obtain⟨k',e,hs⟩:=O8 hf x k hx;exact J8 d k' k hs n _ (hk x k' (GY e))
 |fn h0 hp hf=>
  obtain⟨r,hr,_,h5⟩:=key hp;have h5:=h5 (J7 hr).2;refine .fn b0 hr ?_;rw[GV]at hf⊢;refine⟨hf.1,λm hm x hx s hs N hN=>?_⟩;have:=hf.2 m hm x (J8 d _ _ h5.1 m x hx) s hs N hN;revert this;unfold kC;cases iG X P ord N _ _ s with
  |ok v s'=>exactλ⟨j,h1,h2,h3⟩=>⟨j,h1,h2,J8 d _ _ h5.2 j v h3⟩
  |over h n s=>exact id
  |bad=>exact id
def zGq{a b:fZ}(h:lU a b=true){n:Nat}{v:Val}(hv:VT (FN X P ord K n) a v):VT (FN X P ord K n) b v:=by
 unfold lU at h;rw[aC,aC]at h;exact J8 X P ord K _ a b h.2.2 n v hv
variable {F:fZ->fZ->fw->List Val->Prop}
theorem vV{v:Val}(k:Int)(h0:k≠0)(h:v.tag+1=k)(h4:v.tag<4):VT F (bT k) v:=by
 have:=v.tag_in;have e:(bT k).kind=k:=rfl;refine .base (q:=⟨iD (bT k),false,bT k⟩) (by rw[e];exact h0) ?_ h4;have e1:kG (bT k)=[⟨iD (bT k),false,bT k⟩]:=by
  unfold kG;rw[aA (by rw[e];exact h0),aB (by rw[e];omega)]
 have e2:iD (bT k)=v.tag:=by unfold iD;rw[e,aA (by omega)];omega
 rw[e1,e2];simp[kT]
def GZ{t:fZ}{v:Val}(h:VT F t v)(h0:t.kind≠0)(h7:t.kind≠7):v.tag+1=t.kind:=by
 have g:=v.tag_in;cases h with
 |any h=>exact absurd h h0
 |base _ h _=>have:=AA (GX h0 h7 h).2 g.1;omega
 |rcd w _ h _ _=>have:=AA (GX h0 h7 h).2 (by omega);simp only[Val.tag];omega
 |fn _ h _=>have:=AA (GX h0 h7 h).2 (by omega);simp only[Val.tag];omega
theorem Yt{v:Val}(h:VT F (bT 2) v):∃b,v=.bool b:=by
 have:=GZ h (by decide) (by decide);have e:(bT 2).kind=2:=rfl;cases v<;>simp only[Val.tag]at this<;>first|exact⟨_,rfl⟩|omega
theorem Yu{v:Val}(h:VT F (bT 3) v):∃b,v=.int b:=by
 have:=GZ h (by decide) (by decide);have e:(bT 3).kind=3:=rfl;cases v<;>simp only[Val.tag]at this<;>first|exact⟨_,rfl⟩|omega
theorem Yv{v:Val}(h:VT F (bT 4) v):∃b,v=.str b:=by
 have:=GZ h (by decide) (by decide);have e:(bT 4).kind=4:=rfl;cases v<;>simp only[Val.tag]at this<;>first|exact⟨_,rfl⟩|omega
def zHh{t:fZ}{v:Val}(h:VT F t v)(h6:t.kind=6):∃b sc,v=.fn b sc/\F (jg t) (jh t) b sc:=by
 have g:=v.tag_in;have:=GZ h (by omega) (by omega);cases h with
 |any h=>omega
 |base _ h h4=>omega
 |rcd w _ h _ _=>simp only[Val.tag]at this;omega
 |fn _ h hf=>rw[(GX (by omega) (by omega) h).1]at hf;exact⟨_,_,rfl,hf⟩
def Yw{t:fZ}{v:Val}(h:VT F t v)(h5:t.kind=5):∃ns vs,v=.rcd ns vs/\∃w:di->Val,∀x k,(x,k)∈t.names.zip t.kids->lW ns vs x=some (w x)/\VT F k (w x):=by
 have g:=v.tag_in;have:=GZ h (by omega) (by omega);cases h with
 |any h=>omega
 |base _ h h4=>omega
 |rcd w _ h hw hk=>rw[(GX (by omega) (by omega) h).1]at hw hk;exact⟨_,_,rfl,w,λx k hx=>⟨hw x k hx,hk x k hx⟩⟩
 |fn _ h hf=>simp only[Val.tag]at this;omega
def O9{t:fZ}(h0:t.kind≠0)(h7:t.kind≠7):kT (kG t) (iD t)=(⟨iD t,false,t⟩,true):=by
 unfold kG;rw[aA h0,aB h7];simp[kT]
def Yx{t:fZ}(h6:t.kind=6){b:fw}{sc:List Val}(h:F (jg t) (jh t) b sc):VT F t (.fn b sc):=by
 refine .fn (q:=⟨iD t,false,t⟩) (by omega) ?_ h;rw[show(5:Int)=iD t from by unfold iD;rw[aA (by omega)];omega];exact O9 (by omega) (by omega)
def Oa{t:fZ}(h5:t.kind=5){ns:List di}{vs:List Val}(w:di->Val)(h:∀x k,(x,k)∈t.names.zip t.kids->lW ns vs x=some (w x)/\VT F k (w x)):VT F t (.rcd ns vs):=by
 refine .rcd (q:=⟨iD t,false,t⟩) w (by omega) ?_ (λx k hx=>(h x k hx).1) λx k hx=>(h x k hx).2;rw[show(4:Int)=iD t from by unfold iD;rw[aA (by omega)];omega];exact O9 (by omega) (by omega)
def zFf{t:fZ}{v:Val}(h0:t.kind≠0)(h:VT F t v):∃q,kT (kG t) v.tag=(q,true)/\∀u:fZ,u.kind≠0->(∃r,kT (kG u) v.tag=(r,true)/\r.t=q.t)->VT F u v:=by
 cases h with
 |any h=>exact absurd h h0
 |base _ h h4=>exact⟨_,h,λu u0 ⟨r,hr,e⟩=>.base u0 hr h4⟩
 |rcd w _ h hw hk=>exact⟨_,h,λu u0 ⟨r,hr,e⟩=>.rcd w u0 hr (by rw[e];exact hw) (by rw[e];exact hk)⟩
 |fn _ h hf=>exact⟨_,h,λu u0 ⟨r,hr,e⟩=>.fn u0 hr (by rw[e];exact hf)⟩
def Yy{α:Type}(p f:α->Bool):∀(l:List α),(∀x,x∈l->p x=true->f x=true)->(l.filter f).find? p=l.find? p
|[],_=>rfl
| a::l,h=>by
 have ih:=Yy p f l λx hx=>h x (by simp[hx]);by_cases hf:f a=true
 ·rw[filter_cons_of_pos hf,find?_cons,find?_cons,ih]
 ·rw[filter_cons_of_neg hf,ih,find?_cons];have:p a=false:=by
   cases e:p a with
   |false=>rfl
   |true=>exact absurd (h a (by simp) e) hf
  rw[this]
def zB0{t:fZ}{v:Val}(g:Int)(h:VT F t v):(v.tag=g->VT F (qy t g).1 v)/\(v.tag≠g->VT F (qy t g).2 v):=by
 unfold qy;have hg:=v.tag_in;split
 ·exact⟨λ_=>h,λ_=>h⟩
 rename_i q1;split
 ·rename_i k0;split
  ·exact⟨λ_=>h,λ_=>h⟩
  ·rename_i q5;refine⟨λe=>?_,λ_=>h⟩;by_cases e4:v.tag=4
   ·have:∃ns vs,v=.rcd ns vs:=by cases v<;>simp only[Val.tag]at e4<;>first|exact⟨_,_,rfl⟩|omega
    obtain⟨ns,vs,rfl⟩:=this;simp only[Val.tag]at e;subst e;exact Oa (t:=bT 5) rfl (λ_=>.null) λx k hx=>by simp[bT,fZ.names]at hx
   ·exact vV _ (by omega) (by omega) (by omega)
 rename_i k0;split
 ·exact⟨λ_=>h,λ_=>h⟩
 rename_i q2;split
 ·exact⟨λ_=>h,λ_=>h⟩
 rename_i k7;have k7:t.kind=7:=ae k7;obtain⟨q,hq,hv⟩:=zFf k0 h;have i:=zGp k7 hq;have self:∀u:fZ,u=q.t->VT F u v:=λu e=>by
  have hk:=AA i.2 hg.1;subst e;refine hv q.t (by omega) ⟨⟨v.tag,false,q.t⟩,?_,rfl⟩;have:=O9 (t:=q.t) (by omega) (by omega);rw[i.2]at this;exact this
 have first:v.tag=g->VT F (kT (kG t) g).1.t v:=λe=>by rw[<-e,hq];exact self _ rfl
 have mem:v.tag≠g->q.t∈t.kids.filter λk=>decide (iD k≠g):=λe=>bP.2 ⟨i.1,by simp[i.2,e]⟩;split
 ·rename_i r hr;refine⟨first,λe=>self r ?_⟩;have:=mem e;rw[hr,aP]at this;exact this.symm
 ·refine⟨first,λe=>hv _ (by simp[fZ.kind]) ⟨q,?_,rfl⟩⟩;have e1:kG (.mk 7 (bs []) [] (t.kids.filter λk=>decide (iD k≠g)))=(t.kids.filter λk=>decide (iD k≠g)).map λk=>⟨iD k,false,k⟩:=by
   unfold kG;rw[aA (by simp[fZ.kind]),aA (by simp[fZ.kind])];try rfl
  have e2:kG t=t.kids.map λk=>⟨iD k,false,k⟩:=by
   unfold kG;rw[aA k0,aA (by omega)]
  rw[e1];rw[e2]at hq;unfold kT at hq⊢;rw[find?_map]at hq⊢;have:=Yy ((λp:jk=>decide (p.tag=v.tag))∘λk=>(⟨iD k,false,k⟩:jk)) (λk:fZ=>decide (iD k≠g)) t.kids λx hx hp=>by
   simp only[Function.comp,aI]at hp;simp[hp,e]
  rw[this];exact hq
end
section
variable (X:jP) (P:List kJ) (ord:List di->List di) (K:Nat)
def kC.mono{j n:Nat}(h:j<=n){t:fZ}{r:O Val}(hr:kC X P ord K j t r):kC X P ord K n t r:=by
 unfold kC at hr⊢;cases r with
 |ok v s=>obtain⟨i,a,b,c⟩:=hr;exact⟨i,by omega,b,c⟩
 |over h n s=>exact hr
 |bad=>exact hr
def kC.bind{n:Nat}{A B:fZ}{x:O Val}{f:Val->RS->O Val}(hx:kC X P ord K n A x)(hf:∀j,j<=n->∀v,VT (FN X P ord K j) A v->∀s:RS,s.fuel.toNat=(j:Nat)->kC X P ord K j B (f v s)):kC X P ord K n B (x.bind f):=by
 unfold O.bind;cases x with
 |ok v s=>obtain⟨j,a,b,c⟩:=hx;exact(hf j a v c s b).mono X P ord K a
 |over h n s=>exact hx
 |bad=>exact hx
def kC.sub{n:Nat}{A B:fZ}{r:O Val}(h:∀j v,VT (FN X P ord K j) A v->VT (FN X P ord K j) B v)(hr:kC X P ord K n A r):kC X P ord K n B r:=by
 unfold kC at hr⊢;cases r with
 |ok v s=>obtain⟨i,a,b,c⟩:=hr;exact⟨i,a,b,h i v c⟩
 |over h n s=>exact hr
 |bad=>exact hr
def kC.ok{n:Nat}{t:fZ}{v:Val}{s:RS}(hs:s.fuel.toNat=n)(hv:VT (FN X P ord K n) t v):kC X P ord K n t (.ok v s):=⟨n,aK n,hs,hv⟩
def lL(n:Nat)(env:Env)(sc:List Val):Prop:=sc.length=env.length/\∀(k:Nat) (b:di × fZ),env[k]?=some b->∃v,sc[k]?=some v/\VT (FN X P ord K n) b.2 v
def lL.mono{m n:Nat}(h:m<=n){env:Env}{sc:List Val}(he:lL X P ord K n env sc):lL X P ord K m env sc:=
⟨he.1,λk b hb=>by obtain⟨v,h1,h2⟩:=he.2 k b hb;exact⟨v,h1,J6 X P ord K h h2⟩⟩
def lL.more{n:Nat}{env:Env}{sc:List Val}(he:lL X P ord K n env sc)(x:di){t:fZ}{v:Val}(hv:VT (FN X P ord K n) t v):lL X P ord K n (env++[(x,t)]) (sc++[v]):=by
 refine⟨by simp[he.1],λk b hb=>?_⟩;by_cases hk:k<env.length
 ·rw[ay hk]at hb;obtain⟨v,h1,h2⟩:=he.2 k b hb;exact⟨v,by rw[ay (by rw[he.1];exact hk)];exact h1,h2⟩
 ·rw[bC (by omega)]at hb;have h0:k-env.length=0:=by
   have:=(List.getElem?_eq_some_iff.1 hb).1;simp at this;omega
  rw[h0]at hb;simp only[getElem?_cons_zero,aO]at hb;subst hb;exact⟨v,by rw[bC (by rw[he.1];omega),he.1,h0];rfl,hv⟩
variable (L:gq) (T:List jR)
def AB(x:jR):fZ:=(pF L ⟨bs [],x.module,x.decl⟩ x.types).1
def yF(n:Nat):Prop:=∀(i:Nat) (x:jR),T[i]?=some x->∃f,P[i]?=some f/\VT (FN X P ord K n) (AB L x) (.fn f.body [])
def yF.mono{m n:Nat}(h:m<=n)(g:yF X P ord K L T n):yF X P ord K L T m:=λi x hx=>by
 obtain⟨f,h1,h2⟩:=g i x hx;exact⟨f,h1,J6 X P ord K h h2⟩
def jL(c:fw)(env:Env)(t:fZ):Prop:=iQ c<=K->∀n,yF X P ord K L T n->∀sc,lL X P ord K n env sc->∀s:RS,s.fuel.toNat=(n:Nat)->∀N,n*(K+1)+iQ c<=N->kC X P ord K n t (iG X P ord N c sc s)
def AF{j n:Nat}(h:j<=n):j*(K+1)<=n*(K+1):=bL _ h
def J9(c:fw):1<=iQ c:=by cases c;rw[iQ];omega
def G5(c:fw):iQ c=1+gu c.kids:=by cases c;rw[iQ];try rfl
variable {X P ord K L T}
def jL.sub{c:fw}{env:Env}{t u:fZ}(h:jL X P ord K L T c env t)(hs:lU t u=true):jL X P ord K L T c env u:=λhk n g sc he s hf N hN=>(h hk n g sc he s hf N hN).sub X P ord K λj v hv=>zGq X P ord K hs hv
def G6(n:Nat)(ts:List fZ):O (List Val)->Prop
|.ok vs s'=>∃j,j<=n/\s'.fuel.toNat=(j:Nat)/\vs.length=ts.length/\∀(k:Nat) t,ts[k]?=some t->∃v,vs[k]?=some v/\VT (FN X P ord K j) t v
|.over h _ _=>h≠1/\h≠5
|.bad=>False
def Ob:∀(l:List fw) (env:Env) (ts:List fZ),l.length=ts.length->(∀(k:Nat) c t,l[k]?=some c->ts[k]?=some t->jL X P ord K L T c env t)->gu l<=K->∀n,yF X P ord K L T n->∀sc,lL X P ord K n env sc->∀s:RS,s.fuel.toNat=(n:Nat)->∀N,n*(K+1)+gu l<=N->G6 (X:=X) (P:=P) (ord:=ord) (K:=K) n ts (mX (λk s=>iG X P ord N k sc s) l s)
|[],env,[],_,_,_,n,g,sc,he,s,hs,N,hN=>by
 rw[mX];exact⟨n,aK n,hs,rfl,λk t h=>by simp at h⟩
|[],_,_::_,h,_,_,_,_,_,_,_,_,_,_=>by simp at h
|_::_,_,[],h,_,_,_,_,_,_,_,_,_,_=>by simp at h
| c ::l,env,t::ts,hl,hc,hk,n,g,sc,he,s,hs,N,hN=>by
 rw[gu]at hk hN;rw[mX];have h1:=hc 0 c t rfl rfl (by omega) n g sc he s hs N (by omega);unfold O.bind;revert h1;cases iG X P ord N c sc s with
 |over h n s=>exact id
 |bad=>exact id
 | ok v s1=>
  rintro⟨j,hj,hs1,hv⟩
  simp only;have:=AF K hj;have h2:=Ob l env ts (by simpa using hl) (λk c t a b=>hc (k+1) c t (by simpa using a) (by simpa using b)) (by omega) j (g.mono X P ord K L T hj) sc (he.mono X P ord K hj) s1 hs1 N (by omega);revert h2;cases mX (λk s=>iG X P ord N k sc s) l s1 with
  |over h n s=>exact id
  |bad=>exact id
  | ok vs s2=>
   rintro⟨i,hi,hs2,hn,hvs⟩
   refine⟨i,by omega,hs2,by simp[hn],λk u hu=>?_⟩;cases k with
   |zero=>
    simp only[getElem?_cons_zero,aO]at hu;subst hu;exact⟨v,rfl,J6 X P ord K hi hv⟩
   |succ k=>
    simp only[getElem?_cons_succ]at hu;obtain⟨w,h1,h2⟩:=hvs k u hu;exact⟨w,by simpa using h1,h2⟩
end
end Go.Gr
