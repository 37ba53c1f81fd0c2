/- Texts of ours, joined and written short by a program of ours. -/
import Derived.Test.YtlfjlokfciejnaaGreatDoorLJ13
import Derived.Test.YtlfjlokfciejnaaGreatDoorLJ11
import Derived.Test.YtlfjlokfciejnaaGreatDoorLJ10
import Derived.Test.YtlfjlokfciejnaaGreatDoorLSrt
set_option maxRecDepth 20000
set_option maxHeartbeats 4000000
set_option linter.unusedVariables false
set_option linter.unusedSimpArgs false
namespace Go.Gr
open Go.Abs Go.Proofs
@[simp] theorem gy.get0(c:gy)(h:0<c.enc.length):c.enc[0]=.int .i64 c.kind:=by simp only[c.enc_eq];rfl
@[simp] theorem gy.get1(c:gy)(h:1<c.enc.length):c.enc[1]=.int .i64 c.n:=by simp only[c.enc_eq];rfl
@[simp] theorem gy.get7(c:gy)(h:7<c.enc.length):c.enc[7]=.sl false 8 (c.kids.map gy.enc):=by simp only[c.enc_eq];rfl
theorem yu{ts:List (Nat × Nat)}(h:ts.length=([]:List Blk).length):ts=[]:=by simpa using h
theorem Au(c:gy):kS c=1+ji c.kids:=by cases c;rw[kS];try rfl
theorem OO:∀l:List gy,l.length<=ji l
|[]=>by simp
|c::l=>by
 have:=OO l;have:=Au c;rw[ji,List.length_cons];omega
theorem zGU(l:List gy)(hl:l.length<=1000000000):MCall Pg 39 [.c (.d (.sl false 8 (l.map gy.enc)))] [] (.c (.msl 8 0 0 l.length)) [.arr 8 ((l.map gy.enc).map (·.map .d))]:=by
 refine zq9 ⟨by simp,by simp,by simp,by simp,by simp,by simp[live],by simp⟩ λts hts ok hb c hN hp=>?_;obtain rfl:=yu hts;unfold XU;cases l with
 | nil=>
  simp;refine⟨fV [.t 2] ?_,fV [] ?_⟩
  ·simp;exact fM [0] []
  ·simp;exact fM [0] []
 |cons x l=>
  simp;refine⟨by simp at hl;omega,?_⟩;refine fV [] ?_;simp;exact fM [0] []
abbrev yw(c:gy)(x:AC):List AC:=[.d (.int .i64 c.kind),.d (.int .i64 c.n),.d (.str c.text),.d (.sl false 1 (encI c.ints)),.d (.sl false 1 (encS c.names)),.d (.sl false 4 (c.types.map gU.enc)),.d (.sl false 5 (c.cos.map gp.enc)),x]
theorem zJD(c:gy)(x:AC):put (c.enc.map AC.d) 7 [x]=yw c x:=by
 rw[c.enc_eq];try rfl
theorem St.cut7{F:St->Prop}{t:List (Nat × AV)}{m:Hp}{n:Nat}(ts:List (Nat × AV))(bs:List Blk)(ht:∀p,p∈ts->Abs.look t p.1=p.2)(hm:∀i,m i=hpOf bs i)(h:∀T,(∀p,p∈ts->Abs.look T p.1=p.2)->F ⟨T,hpOf bs,n⟩):F ⟨t,m,n⟩:=by
 have e:m=hpOf bs:=funext hm;subst e;exact h t ht
theorem GY{m:Nat}{k:Int}(h5:k≠5):∀{l:List gy} {i j:Nat} (h:j<l.length),jr m k l i->mR (if k=18 then m+(i+j)else m) l[j]
|c::l,i,0,h,hw=>by
 rw[jr,aB h5]at hw;exact hw.1
|c::l,i,j+1,h,hw=>by
 rw[jr]at hw;have:=GY h5 (i:=i+1) (j:=j) (by simpa using h) hw.2;rw[show i+1+j=i+(j+1)from by omega]at this;exact this
theorem Bp:∀{l:List gy} {j:Nat} (h:j<l.length),j+kS l[j]<=ji l
|c::l,0,h=>by rw[ji];simp
|c::l,j+1,h=>by
 have:=Bp (l:=l) (j:=j) (by simpa using h);have:=Au c;rw[ji];simp only[List.getElem_cons_succ];omega
@[simp] theorem jh.get0(f:jh)(h:0<f.enc.length):f.enc[0]=.str f.name:=rfl
theorem jh.enc_eq(f:jh):f.enc=.str f.name::(f.type.enc++f.body.enc):=rfl
@[simp] theorem jh.cut_body(f:jh):cut (f.enc.map AC.d) 5 8=f.body.enc.map .d:=by unfold jh.enc;rw[f.type.enc_eq,f.body.enc_eq];try rfl
@[simp] theorem jh.cut_bodyD(f:jh):cut f.enc 5 8=f.body.enc:=by unfold jh.enc;rw[f.type.enc_eq,f.body.enc_eq];try rfl
theorem zFT(l:List jh)(hl:l.length<=1000000000):MCall Pg 18 [.c (.d (.sl false 13 (l.map jh.enc)))] [] (.c (.msl 13 0 0 l.length)) [.arr 13 ((l.map jh.enc).map (·.map .d))]:=by
 refine zry ⟨by simp,by simp,by simp,by simp,by simp,by simp[live],by simp⟩ λts hts ok hb c hN hp=>?_;obtain rfl:=yu hts;unfold XV;cases l with
 | nil=>
  simp;refine⟨fV [.t 2] ?_,fV [] ?_⟩
  ·simp;exact fM [0] []
  ·simp;exact fM [0] []
 |cons x l=>
  simp;refine⟨by simp at hl;omega,?_⟩;refine fV [] ?_;simp;exact fM [0] []
@[simp] theorem gy.get5(c:gy)(h:5<c.enc.length):c.enc[5]=.sl false 4 (c.types.map gU.enc):=by simp only[c.enc_eq];rfl
@[simp] theorem gy.get6(c:gy)(h:6<c.enc.length):c.enc[6]=.sl false 5 (c.cos.map gp.enc):=by simp only[c.enc_eq];rfl
end Go.Gr
namespace Go.Gr
open Go.Abs Go.Proofs List
mutual
def lX:gp->gp->Bool
|.mk t n s f g,.mk t' n' s' f' g'=>decide (t=t')&&(decide (n=n')&&(decide (s=s')&&(xk f f'&&xk g g')))
def xk:List gp->List gp->Bool
|[],[]=>true
|a::l,b::k=>lX a b&&xk l k
|_,_=>false
end
def idC:gp:=.mk [0,0,0,0,0,0] [] [] [] []
def Bq(a b:fF):Bool:=Op.bytesLess a.data.toList b.data.toList||decide (a=b)
def wm:List fF->Bool
|a::b::l=> !Bq b a&&wm (b::l)
|_=>true
theorem XW:∀{l:List fF} {i:Nat} (h:i+1<l.length),Bq l[i+1] l[i]=true->wm l=false
|a::b::l,0,h,e=>by
 simp only[getElem_cons_succ,getElem_cons_zero]at e;simp[wm,e]
|a::b::l,i+1,h,e=>by
 have:=XW (l:=b::l) (i:=i) (by simpa using h) (by simpa using e);simp[wm,this]
|[],_,h,_=>by simp at h
|[_],_,h,_=>by simp at h
theorem XX:∀{l:List fF},(∀i (h:i+1<l.length),Bq l[i+1] l[i]=false)->wm l=true
|[],_=>rfl
|[_],_=>rfl
| a::b::l,H=>by
 have h0:=H 0 (by simp);simp only[getElem_cons_succ,getElem_cons_zero]at h0;have:=XX (l:=b::l) λi h=>by
  have:=H (i+1) (by simpa using h);simpa only[getElem_cons_succ]using this
 simp[wm,h0,this]
def GZ(l:List (fF × Int))(j:Nat):Prop:=∀i (h:i<l.length),i<j->l[i].2≠0/\∀k (hk:k<i),l[k].1≠l[i].1
def vz:List fF->List (fF × Int)->Bool
|_,[]=>true
|seen,x::l=>decide (x.2≠0)&&(!(seen.any λy=>decide (y=x.1))&&vz (x.1::seen) l)
theorem OP:∀(l:List (fF × Int)) (seen:List fF),vz seen l=true↔(∀i (h:i<l.length),l[i].1∉seen)/\GZ l l.length
|[],seen=>by simp[vz,GZ]
| x ::l,seen=>by
 have hm:(!(seen.any λy=>decide (y=x.1)))=true↔x.1∉seen:=by
  simp;exact⟨λh hx=>h _ hx rfl,λh y hy e=>h (e▸hy)⟩
 simp only[vz,aF,aI];rw[OP l (x.1::seen),hm];constructor
 ·rintro⟨h1,h2,h3,h4⟩
  refine⟨λi h=>?_,λi h hj=>?_⟩
  ·cases i with
   |zero=>exact h2
   |succ i=>have:=h3 i (by simpa using h);simp only[aN,dO]at this;exact this.2
  ·cases i with
   |zero=>exact⟨h1,λk hk=>by omega⟩
   |succ i=>
    have h':i<l.length:=by simpa using h
    have:=h4 i h' h';refine⟨this.1,λk hk=>?_⟩;cases k with
    |zero=>have:=h3 i h';simp only[aN,dO]at this;exactλe=>this.1 e.symm
    |succ k=>exact this.2 k (by omega)
 ·rintro⟨h1,h2⟩
  refine⟨(h2 0 (by simp) (by simp)).1,h1 0 (by simp),λi h=>?_,λi h hj=>?_⟩
  ·simp only[aN,dO];exact⟨λe=>(h2 (i+1) (by simpa using h) (by simpa using h)).2 0 (by omega) e.symm,h1 (i+1) (by simpa using h)⟩
  ·have:=h2 (i+1) (by simpa using h) (by simpa using h);exact⟨this.1,λk hk=>this.2 (k+1) (by omega)⟩
theorem zjT{l:List (fF × Int)}(h:GZ l l.length):vz [] l=true:=(OP l []).2 ⟨λ_ _=>by simp,h⟩
theorem XY{l:List (fF × Int)}(h:¬GZ l l.length):vz [] l=false:=by
 cases e:vz [] l with
 |false=>rfl
 |true=>exact absurd ((OP l []).1 e).2 h
def iF(d:gp)(k:Nat):Int:=d.tags.getD k 0
def wB(d:gp):Bool:=
 decide (d.tags.length=6/\d.names.length=d.fields.length/\(d.fn.length=0\/d.fn.length=2))&&
 (decide (¬(iF d 4≠0/\0<d.names.length\/iF d 5≠0/\0<d.fn.length))&&(vz [] d.needs&&wm d.names))
mutual
def iY:gp->Bool
|.mk t n s f g=>wB (.mk t n s f g)&&(G5 f&&Av g)
def G5:List gp->Bool
|[]=>true
|c::l=>(iY c&& !lX c idC)&&G5 l
def Av:List gp->Bool
|a::b::_=>iY a&&(iY b&& !(lX a idC&&lX b idC))
|_=>true
end
theorem XZ:∀l:List gp,G5 l=l.all λc=>iY c&& !lX c idC
|[]=>by simp[G5]
|c::l=>by simp[G5,XZ l]
theorem X0(d:gp):iY d=(wB d&&((d.fields.all λc=>iY c&& !lX c idC)&&Av d.fn)):=by
 cases d;simp only[iY,XZ,gp.fields,gp.fn]
theorem X3:∀(x y:List UInt8),decide (0<=Lib.compareBytes x y)=(Op.bytesLess y x||decide (y=x))
|[],[]=>by simp[Lib.compareBytes]
|[],b::y=>by simp[Lib.compareBytes,Op.bytesLess]
|a::x,[]=>by simp[Lib.compareBytes,Op.bytesLess]
| a::x,b::y=>by
 have ih:=X3 x y;simp only[Lib.compareBytes,Op.bytesLess];by_cases h1:a<b
 ·have h2:¬b<a:=λh=>absurd (UInt8.lt_trans h1 h) (eZ _);have h3:¬b=a:=λh=>by rw[h]at h1;exact eZ _ h1
  simp[h1,h2,h3]
 ·by_cases h2:b<a
  ·simp[h1,h2]
  ·have h3:b=a:=UInt8.le_antisymm (UInt8.not_lt.1 h1) (UInt8.not_lt.1 h2);subst h3;simp only[h1,if_false,ih];simp
theorem zIv(a b:fF):Bq a b=decide (0<=Lib.compareBytes b.data.toList a.data.toList):=by
 rw[X3];unfold Bq;congr 1;rw[dP];simp only[aI];constructor
 ·intro h;rw[h]
 ·intro h;exact Go.WideShapes.bytes_inj h
def ng(l:List (fF × Int)):List (D × AV):=l.map λx=>(.str x.1,.c (.d (.bool true)))
theorem X4(s:fF):∀(l:List (fF × Int)) (i:Nat),(∀x,x∈l->s≠x.1)->kK 1 (.str s) (ng l) i=some none
|[],i,_=>rfl
|x::l,i,h=>by
 have h0:=h x (by simp);have ih:=X4 s l (i+1) λy hy=>h y (by simp[hy]);simp only[ng]at ih;simp[ng,h0,ih]
theorem X5(s:fF):∀(l:List (fF × Int)) (i:Nat),(∃x,x∈l/\s=x.1)->∃k,kK 1 (.str s) (ng l) i=some (some (k,.c (.d (.bool true))))
|[],i,h=>by obtain⟨x,hx,_⟩:=h;cases hx
| x::l,i,h=>by
 by_cases h0:s=x.1
 ·exact⟨i,by simp[ng,h0]⟩
 ·obtain⟨y,hy,e⟩:=h;have:∃y,y∈l/\s=y.1:=by
   cases aN.1 hy with
   |inl h=>subst h;exact absurd e h0
   |inr h=>exact⟨y,h,e⟩
  obtain⟨k,hk⟩:=X5 s l (i+1) this;simp only[ng]at hk;exact⟨k,by simp[ng,h0,hk]⟩
theorem zGX(f:Nat->Nat)(l:List (fF × Int)):(ng l).map (λe=>(e.1,AV.ren f e.2))=ng l:=by simp[ng]
theorem zCj(l:List (fF × Int))(x:fF × Int):ng (l++[x])=ng l++[(.str x.1,.c (.d (.bool true)))]:=by simp[ng]
theorem zH7{n:Nat}{l:List (fF × Int)}{a:D}{b:AV}(h:(a,b)∈ng l):AV.lt n b=true:=by
 simp only[ng,aY]at h;obtain⟨x,_,e⟩:=h;cases e;simp
@[simp] theorem gp.er_map(d:gp):d.enc.map D.er=d.enc:=by rw[gp.enc_eq];try rfl
def rF:List Int:=[0,0,0,0,0,0]
def zg(x:fF × Int):List D:=[.str x.1,.int .i64 x.2]
def ix{α:Type}(q:α->Bool):Nat->List α->Int
|_,[]=> -1
|j,x::l=>if q x=true then(j:Int)else ix q (j+1) l
theorem X6{α:Type}(q:α->Bool):∀(j:Nat) (l:List α),decide (0<=ix q j l)=l.any q
|_,[]=>by simp[ix]
| j,x::l=>by
 have ih:=X6 q (j+1) l;simp only[ix,any_cons];split
 ·rename_i h;rw[h,fB];simp
 ·rename_i h;rw[aM]at h;rw[h,eP];exact ih
def o5(a b:List (fF × Int)):List (fF × Int):=a++b.filter λn=> !a.any λm=>decide (m.1=n.1)
def jD(c:gp):gp × gp:=match c.fn with
|f::g::_=>(f,g)
|_=>(idC,idC)
def mU(f g:gp):List gp:=if(lX f idC&&lX g idC)=true then []else [f,g]
end Go.Gr
namespace Go.Gr
open Go.Abs Go.Proofs Go.RowKit List
end Go.Gr
namespace Go.Gr
open Go.Abs Go.Proofs List
def xm:gp:=.mk [] [] [] [] []
def sI(l:List (fF × gp))(k:fF):gp:=match l with
|[]=>xm
|x::l=>if k=x.1 then x.2 else sI l k
def kT(l:List (fF × gp))(ks:List fF):List (fF × gp):=(ks.map λk=>(k,sI l k)).filter λx=> !lX x.2 idC
theorem X7{l:List (fF × gp)}{ks:List fF}{j:Nat}(h:j<ks.length):kT l (ks.take (j+1))=kT l (ks.take j)++if lX (sI l ks[j]) idC=true then []else [(ks[j],sI l ks[j])]:=by
 unfold kT;rw[aJ h,map_append,dJ];by_cases q:lX (sI l ks[j]) idC=true<;>simp[q]
theorem X8(l:List (fF × gp))(ks:List fF):(kT l ks).length<=ks.length:=by
 unfold kT;exact aj (bP _ _) (by simp)
theorem JQ{l:List fF}{k:fF}:k∈zco l↔k∈l:=by
 unfold zco;simp only[aY,mem_mergeSort];constructor
 ·rintro⟨x,⟨s,hs,rfl⟩,rfl⟩
  simpa using hs
 ·intro h;exact⟨_,⟨k,h,rfl⟩,by simp⟩
end Go.Gr
namespace Go.Gr
open Go.Abs
def jw(a b:fF):Prop:=a.data.toList<b.data.toList
instance ltBDec (a b:fF):Decidable (jw a b):=inferInstanceAs (Decidable (a.data.toList<b.data.toList))
theorem JR:∀(x y:List UInt8),Op.bytesLess x y=decide (x<y)
|[],[]=>by simp[Op.bytesLess]
|_::_,[]=>by simp[Op.bytesLess]
|[],_::_=>by simp[Op.bytesLess]
| a::x,b::y=>by
 rw[Op.bytesLess,JR x y];by_cases h1:a<b
 ·simp[h1,eF]
 ·by_cases h2:b<a
  ·have:¬a=b:=λe=>by rw[e]at h2;exact eZ _ h2
   simp[h1,h2,this,eF]
  ·have:a=b:=UInt8.le_antisymm (UInt8.not_lt.1 h2) (UInt8.not_lt.1 h1);simp[this,eF,eZ]
theorem Br(a:fF):¬jw a a:=List.lt_irrefl _
theorem zh{a b c:fF}(h:jw a b)(k:jw b c):jw a c:=List.lt_trans h k
theorem EQ{a b:fF}(h:a≠b):jw a b\/jw b a:=by
 by_cases h1:jw a b
 ·exact .inl h1
 ·by_cases h2:jw b a
  ·exact .inr h2
  ·have:a.data.toList=b.data.toList:=List.le_antisymm h2 h1;exact absurd (Go.WideShapes.bytes_inj this) h
theorem zod(a b:fF):(!Bq b a)=decide (jw a b):=by
 unfold Bq jw;rw[JR];by_cases h:a=b
 ·subst h;simp[List.lt_irrefl]
 ·have h':¬b=a:=λe=>h e.symm;rcases EQ h with q|q
  ·have:¬jw b a:=λe=>Br _ (zh q e);unfold jw at q this;simp[h',q,this]
  ·have:¬jw a b:=λe=>Br _ (zh q e);unfold jw at q this;simp[h',q,this]
theorem X9:∀{l:List fF},wm l=true↔l.Pairwise jw
|[]=>by simp[wm]
|[a]=>by simp[wm]
| a::b::l=>by
 rw[wm,zod,aF,aI,X9 (l:=b::l)];constructor
 ·rintro⟨h1,h2⟩
  refine List.Pairwise.cons (λc hc=>?_) h2;cases aN.1 hc with
  |inl e=>rw[e];exact h1
  |inr e=>exact zh h1 (List.rel_of_pairwise_cons h2 e)
 ·intro h;exact⟨List.rel_of_pairwise_cons h (by simp),h.of_cons⟩
theorem sW{l:List fF}(h:l.Pairwise jw):l.Nodup:=h.imp λh e=>by rw[e]at h;exact Br _ h
theorem Xa{l k:List fF}(h1:l.Pairwise jw)(h2:k.Pairwise jw)(h:∀x,x∈l↔x∈k):l=k:=
 List.Perm.eq_of_pairwise (le:=jw) (λa b _ _ p q=>absurd (zh p q) (Br _)) h1 h2 ((List.perm_ext_iff_of_nodup (sW h1) (sW h2)).2 h)
theorem Xb{l:List fF}(hn:l.Nodup):(zco l).Pairwise jw:=by
 have tr:∀a b c:List UInt8,decide (a<=b)=true->decide (b<=c)=true->decide (a<=c)=true:=λa b c h1 h2=>by simp only[aI]at*;exact List.le_trans h1 h2
 have to:∀a b:List UInt8,(decide (a<=b)||decide (b<=a))=true:=λa b=>by simp only[bz,aI];exact List.le_total a b
 have h1:=List.pairwise_mergeSort tr to (l.map λs=>s.data.toList);have h2:((l.map λs=>s.data.toList).mergeSort λx y=>decide (x<=y)).Nodup:=by
  refine(List.mergeSort_perm _ _).nodup_iff.2 ?_;refine List.pairwise_map.2 (hn.imp λh e=>h (Go.WideShapes.bytes_inj e))
 unfold zco;rw[List.pairwise_map];refine(h1.and h2).imp λ{a b} ⟨p,q⟩=>?_;simp only[aI]at p;unfold jw;simp only;rcases EQ (a:=⟨a.toArray⟩) (b:=⟨b.toArray⟩) (λe=>q (by simpa using dL (λx:fF=>x.data.toList) e))with r|r
 ·exact r
 ·exact absurd r p
mutual
theorem Aw:∀(a b:gp),lX a b=true↔a=b
|.mk t n s f g,.mk t' n' s' f' g'=>by
 simp only[lX,aF,aI,gp.mk.injEq];rw[OQ f f',OQ g g']
theorem OQ:∀(a b:List gp),xk a b=true↔a=b
|[],[]=>by simp[xk]
|[],_::_=>by simp[xk]
|_::_,[]=>by simp[xk]
|a::l,b::k=>by
 simp only[xk,aF,dX];rw[Aw a b,OQ l k]
end
theorem ER{a b:gp}:lX a b=false↔a≠b:=by
 rw[<-aM,Aw]
theorem JS(a:gp):lX a a=true:=(Aw a a).2 rfl
theorem zk1(l:List (fF × Int)):vz [] l=true↔(∀x,x∈l->x.2≠0)/\(l.map (·.1)).Nodup:=by
 have key:∀(l:List (fF × Int)) (seen:List fF),vz seen l=true↔(∀x,x∈l->x.2≠0/\x.1∉seen)/\(l.map (·.1)).Nodup:=by
  intro l
  induction l with
  |nil=>intro seen;simp[vz]
  | cons x l ih=>
   intro seen;have hm:(!(seen.any λy=>decide (y=x.1)))=true↔x.1∉seen:=by
    simp;exact⟨λh hx=>h _ hx rfl,λh y hy e=>h (e▸hy)⟩
   simp only[vz,aF,aI];rw[ih,hm];simp only[List.map_cons,bZ,aN,dO];constructor
   ·rintro⟨h1,h2,h3,h4⟩
    refine⟨λy hy=>?_,λh=>?_,h4⟩
    ·rcases hy with rfl|hy
     ·exact⟨h1,h2⟩
     ·exact⟨(h3 y hy).1,(h3 y hy).2.2⟩
    ·obtain⟨y,hy,e⟩:=aY.1 h;exact(h3 y hy).2.1 e
   ·rintro⟨h1,h2,h3⟩
    refine⟨(h1 x (.inl rfl)).1,(h1 x (.inl rfl)).2,λy hy=>⟨(h1 y (.inr hy)).1,λe=>h2 ?_,(h1 y (.inr hy)).2⟩,h3⟩;exact aY.2 ⟨y,hy,e⟩
 rw[key];simp
theorem gp.ext'{a b:gp}(h1:a.tags=b.tags)(h2:a.needs=b.needs)(h3:a.names=b.names)(h4:a.fields=b.fields)(h5:a.fn=b.fn):a=b:=by
 cases a;cases b;simp only[gp.tags,gp.needs,gp.names,gp.fields,gp.fn]at*
 subst h1 h2 h3 h4 h5;rfl
structure May (d:gp):Prop where
 tags:d.tags.length=6
 len:d.names.length=d.fields.length
 fn:d.fn=[]\/∃f g,d.fn=[f,g]/\iY f=true/\iY g=true/\¬(f=idC/\g=idC)
 t4:iF d 4≠0->d.names=[]
 t5:iF d 5≠0->d.fn=[]
 needs:(∀x,x∈d.needs->x.2≠0)/\(d.needs.map (·.1)).Nodup
 names:d.names.Pairwise jw
 fields:∀x,x∈d.fields->iY x=true/\x≠idC
theorem uI(d:gp):iY d=true↔May d:=by
 rw[X0];unfold wB;simp only[aF,aI];rw[zk1,X9,aa];constructor
 ·rintro⟨⟨⟨h1,h2,h3⟩,h4,h5,h6⟩,h7,h8⟩
  refine⟨h1,h2,?_,λh=>?_,λh=>?_,h5,h6,λx hx=>?_⟩
  ·rcases h3 with h3|h3
   ·exact .inl (aU.1 h3)
   ·obtain⟨x,y,hxy⟩:∃x y,d.fn=[x,y]:=by
     match d.fn,h3 with
     |[x,y],_=>exact⟨x,y,rfl⟩
    rw[hxy,Av]at h8;simp only[aF,bE,Bool.and_eq_false_iff,ER]at h8;exact .inr ⟨x,y,hxy,h8.1,h8.2.1,λ⟨e1,e2⟩=>h8.2.2.elim (λq=>q e1) (λq=>q e2)⟩
  ·refine aU.1 ?_;omega
  ·refine aU.1 ?_;omega
  ·have:=h7 x hx;simp only[aF,bE,ER]at this;exact this
 ·rintro⟨h1,h2,h3,h4,h5,h6,h7,h8⟩
  refine⟨⟨⟨h1,h2,?_⟩,?_,h6,h7⟩,λx hx=>?_,?_⟩
  ·rcases h3 with h3|⟨f,g,h3,_⟩<;>rw[h3]<;>simp
  ·rintro(⟨q,r⟩|⟨q,r⟩)
   ·rw[h4 q]at r;simp at r
   ·rw[h5 q]at r;simp at r
  ·simp only[aF,bE,ER];exact h8 x hx
  ·rcases h3 with h3|⟨f,g,h3,q1,q2,q3⟩
   ·rw[h3];try rfl
   ·rw[h3,Av];simp only[aF,bE,Bool.and_eq_false_iff,ER];refine⟨q1,q2,?_⟩;by_cases e:f=idC
    ·exact .inr λe'=>q3 ⟨e,e'⟩
    ·exact .inl e
instance memBDec (k:fF) (l:List fF):Decidable (k∈l):=decidable_of_iff (l.any (λx=>decide (x=k))=true) (by simp)
def sJ:List fF->List gp->fF->gp
|n::ns,f::fs,k=>if k=n then f else sJ ns fs k
|_,_,_=>idC
def kL(c:gp)(k:fF):gp:=sJ c.names c.fields k
theorem xn:∀{ns:List fF} {fs:List gp} {k:fF},k∉ns->sJ ns fs k=idC
|[],fs,k,h=>by simp[sJ]
|n::ns,[],k,h=>by simp[sJ]
|n::ns,f::fs,k,h=>by
 simp only[aN,dO]at h;rw[sJ,aB h.1,xn h.2]
theorem ES:∀{ns:List fF} {fs:List gp} {k:fF},ns.length=fs.length->k∈ns->sJ ns fs k∈fs
| n::ns,f::fs,k,e,h=>by
 rw[sJ];split
 ·simp
 ·rename_i q;have:=ES (ns:=ns) (fs:=fs) (k:=k) (by simpa using e) ((aN.1 h).resolve_left q);simp[this]
|_::_,[],_,e,_=>by simp at e
theorem Xc:∀{ns:List fF} {fs:List gp} {j:Nat} (h:j<ns.length) (h':j<fs.length),ns.Nodup->sJ ns fs ns[j]=fs[j]
|n::ns,f::fs,0,_,_,_=>by simp[sJ]
|n::ns,f::fs,j+1,h,h',hn=>by
 simp only[bZ]at hn;simp only[List.getElem_cons_succ];have hj:j<ns.length:=by simpa using h
 have hne:¬ns[j]=n:=λe=>hn.1 (e▸aO hj);rw[sJ,aB hne];exact Xc _ _ hn.2
theorem Xd:∀{ns:List fF} {fs gs:List gp},ns.length=fs.length->ns.length=gs.length->ns.Nodup->(∀k,sJ ns fs k=sJ ns gs k)->fs=gs
|[],[],[],_,_,_,_=>rfl
| n::ns,f::fs,g::gs,h1,h2,hn,h=>by
 have h0:=h n;simp only[bZ]at hn;simp only[sJ,if_true]at h0;rw[h0,Xd (ns:=ns) (fs:=fs) (gs:=gs) (by simpa using h1) (by simpa using h2) hn.2 λk=>by
  by_cases q:k=n
  ·rw[q,xn hn.1,xn hn.1]
  ·have:=h k
   simpa only[sJ,aB q]using this]
|[],f::fs,_,h1,_,_,_=>by simp at h1
|[],[],g::gs,_,h2,_,_=>by simp at h2
|n::ns,[],_,h1,_,_,_=>by simp at h1
|n::ns,f::fs,[],_,h2,_,_=>by simp at h2
theorem DL:iY idC=true:=by decide
theorem May.idC:May idC:=(uI _).1 DL
theorem May.field{c:gp}(h:May c)(k:fF):iY (kL c k)=true:=by
 unfold kL;by_cases q:k∈c.names
 ·exact(h.fields _ (ES h.len q)).1
 ·rw[xn q];exact DL
theorem May.field_ne{c:gp}(h:May c){k:fF}:kL c k≠Go.Gr.idC↔k∈c.names:=by
 unfold kL;constructor
 ·intro q;exact Decidable.byContradiction λe=>q (xn e)
 ·intro q;exact(h.fields _ (ES h.len q)).2
theorem May.pair{c:gp}(h:May c):iY (jD c).1=true/\iY (jD c).2=true:=by
 unfold jD;rcases h.fn with e|⟨f,g,e,h1,h2,_⟩<;>rw[e]
 ·exact⟨DL,DL⟩
 ·exact⟨h1,h2⟩
theorem May.pair_fn{c:gp}(h:May c):c.fn=mU (jD c).1 (jD c).2:=by
 unfold jD mU;rcases h.fn with e|⟨f,g,e,h1,h2,h3⟩<;>rw[e]
 ·simp[JS]
 ·rw[aB];simp only[aF,Aw];exact h3
theorem zFn{c:gp}{f g:gp}(h:c.fn=mU f g):jD c=(f,g):=by
 unfold jD;rw[h];unfold mU;split
 ·rename_i x y l e;split at e
  ·cases e
  ·cases e;rfl
 ·rename_i e;split at e
  ·rename_i q;simp only[aF,Aw]at q;rw[q.1,q.2]
  ·exact absurd rfl (e _ _ _)
theorem May.ext{a b:gp}(ha:May a)(hb:May b)(h1:a.tags=b.tags)(h2:a.needs=b.needs)(h3:∀k,kL a k=kL b k)(h4:jD a=jD b):a=b:=by
 have hn:a.names=b.names:=Xa ha.names hb.names λk=>by
  rw[<-ha.field_ne,<-hb.field_ne,h3]
 refine gp.ext' h1 h2 hn ?_ ?_
 ·refine Xd ha.len (by rw[hn];exact hb.len) (sW ha.names) λk=>?_;have:=h3 k;unfold kL at this;rw[this,hn]
 ·rw[ha.pair_fn,hb.pair_fn,h4]
def lD(a b:List Int):List Int:=List.zipWith (λx y=>if x=0 then y else x) a b
def tZ(a b:gp):List (fF × Int):=if iF a 4=0 then o5 a.needs b.needs else a.needs
def zi(a b:gp):List fF:=zco (a.names++b.names.filter λk=> !decide (k∈a.names))
def busy(l:List (fF × gp)):List (fF × gp):=l.filter λx=> !lX x.2 idC
def rG(v:gp->gp->gp)(a b:gp):List (fF × gp):=busy ((zi a b).map λk=>(k,v (kL a k) (kL b k)))
def jG(v:gp->gp->gp)(a b:gp):gp:=
.mk (lD a.tags b.tags) (tZ a b) (if(lD a.tags b.tags).getD 4 0=0 then(rG v a b).map (·.1)else []) (if(lD a.tags b.tags).getD 4 0=0 then(rG v a b).map (·.2)else [])
 (if(lD a.tags b.tags).getD 5 0=0 then mU (v (jD b).1 (jD a).1) (v (jD a).2 (jD b).2)else [])
def lc:Nat->gp->gp->gp
|0,_,_=>idC
|n+1,a,b=>jG (lc n) a b
theorem zFo{a b:List Int}(ha:a.length=6)(hb:b.length=6)(i:Nat):(lD a b).getD i 0=if a.getD i 0=0 then b.getD i 0 else a.getD i 0:=by
 unfold lD;simp only[aH,List.getElem?_zipWith];by_cases h:i<6
 ·rw[aA (by omega),aA (by omega)];simp
 ·rw[aS (by omega),aS (by omega)];simp
theorem ET{a b:List Int}(ha:a.length=6)(hb:b.length=6):(lD a b).length=6:=by simp[lD,ha,hb]
theorem Xe{a b:List Int}(ha:a.length=6)(hb:b.length=6)(h:∀i,a.getD i 0=b.getD i 0):a=b:=by
 refine List.ext_getElem (by omega) λi h1 h2=>?_;have:=h i;simpa[aH,aA h1,aA h2]using this
theorem Xf{w:fF->gp}:∀{ks:List fF},ks.Nodup->∀k,sJ ((busy (ks.map λk=>(k,w k))).map (·.1)) ((busy (ks.map λk=>(k,w k))).map (·.2)) k=if k∈ks then w k else idC
|[],_,k=>by simp[busy,sJ]
| x::ks,hn,k=>by
 simp only[bZ]at hn;have ih:=Xf (w:=w) hn.2 k;by_cases q:lX (w x) idC=true
 ·have e:busy ((x::ks).map λk=>(k,w k))=busy (ks.map λk=>(k,w k)):=by simp[busy,q]
  rw[e,ih];by_cases qk:k=x
  ·subst qk;rw[aB hn.1,aC (by simp),(Aw _ _).1 q]
  ·simp[qk]
 ·have e:busy ((x::ks).map λk=>(k,w k))=(x,w x)::busy (ks.map λk=>(k,w k)):=by simp[busy,q]
  rw[e];simp only[List.map_cons,sJ];by_cases qk:k=x
  ·subst qk;simp
  ·rw[aB qk,ih];simp[qk]
theorem Xg{a b:gp}{k:fF}:k∈zi a b↔k∈a.names\/k∈b.names:=by
 unfold zi;rw[JQ];simp only[aK,au,bE,bV];by_cases h:k∈a.names<;>simp[h]
theorem Xh{a b:gp}(ha:a.names.Nodup)(hb:b.names.Nodup):(a.names++b.names.filter λk=> !decide (k∈a.names)).Nodup:=by
 refine bu.2 ⟨ha,hb.filter _,λx hx y hy e=>?_⟩;simp only[au,bE,bV]at hy;exact hy.2 (e▸hx)
theorem Xi{a b:gp}(ha:May a)(hb:May b):(zi a b).Pairwise jw:=Xb (Xh (sW ha.names) (sW hb.names))
section
variable {v:gp->gp->gp} {a b:gp}
theorem DN(ha:May a)(hb:May b)(i:Nat):iF (jG v a b) i=if iF a i=0 then iF b i else iF a i:=zFo ha.tags hb.tags i
theorem Xj(ha:May a)(hb:May b)(v0:v idC idC=idC)(k:fF):kL (jG v a b) k=if iF (jG v a b) 4=0 then v (kL a k) (kL b k)else idC:=by
 have ht:iF (jG v a b) 4=(lD a.tags b.tags).getD 4 0:=rfl;have hN:(jG v a b).names=if(lD a.tags b.tags).getD 4 0=0 then(rG v a b).map (·.1)else []:=rfl;have hF:(jG v a b).fields=if(lD a.tags b.tags).getD 4 0=0 then(rG v a b).map (·.2)else []:=rfl;have hf:kL (jG v a b) k=sJ (jG v a b).names (jG v a b).fields k:=rfl;rw[ht,hf,hN,hF];split
 ·rename_i h;unfold rG;rw[Xf (w:=λk=>v (kL a k) (kL b k)) (sW (Xi ha hb))];by_cases q:k∈zi a b
  ·rw[aC q]
  ·rw[aB q];rw[Xg,dO]at q;have e1:kL a k=idC:=xn q.1;have e2:kL b k=idC:=xn q.2;rw[e1,e2,v0]
 ·rename_i h;rfl
theorem Xk(v0:v idC idC=idC):jD (jG v a b)=if iF (jG v a b) 5=0 then(v (jD b).1 (jD a).1,v (jD a).2 (jD b).2)else(idC,idC):=by
 have ht:iF (jG v a b) 5=(lD a.tags b.tags).getD 5 0:=rfl;rw[ht];split
 ·rename_i h;refine zFn ?_;unfold jG;simp only[gp.fn,h,if_true]
 ·rename_i h;unfold jD jG;simp only[gp.fn,h,if_false]
theorem zCl{a b:List (fF × Int)}(ha:(a.map (·.1)).Nodup)(hb:(b.map (·.1)).Nodup):((o5 a b).map (·.1)).Nodup:=by
 unfold o5;rw[List.map_append];refine bu.2 ⟨ha,?_,λx hx y hy e=>?_⟩
 ·exact List.Sublist.nodup (List.filter_sublist.map _) hb
 ·obtain⟨z,hz,rfl⟩:=aY.1 hy;simp only[au,bE,dV,aI]at hz;obtain⟨u,hu,rfl⟩:=aY.1 hx;exact hz.2 u hu e
theorem OT(ha:May a)(hb:May b)(hv:∀x y,iY x=true->iY y=true->iY (v x y)=true):May (jG v a b) where
 tags:=ET ha.tags hb.tags
 len:=by
  unfold jG;simp only[gp.names,gp.fields];split<;>simp
 fn :=by
  unfold jG;simp only[gp.fn];split
  ·unfold mU;split
   ·exact .inl rfl
   ·rename_i q;simp only[aF,Aw]at q;exact .inr ⟨_,_,rfl,hv _ _ hb.pair.1 ha.pair.1,hv _ _ ha.pair.2 hb.pair.2,q⟩
  ·exact .inl rfl
 t4:=λh=>by
  have ht:iF (jG v a b) 4=(lD a.tags b.tags).getD 4 0:=rfl;rw[ht]at h;unfold jG;simp only[gp.names,h,if_false]
 t5:=λh=>by
  have ht:iF (jG v a b) 5=(lD a.tags b.tags).getD 5 0:=rfl;rw[ht]at h;unfold jG;simp only[gp.fn,h,if_false]
 needs:=by
  show(∀x,x∈tZ a b->x.2≠0)/\((tZ a b).map (·.1)).Nodup;unfold tZ;split
  ·refine⟨λx hx=>?_,zCl ha.needs.2 hb.needs.2⟩;unfold o5 at hx;simp only[aK,au]at hx;exact hx.elim (ha.needs.1 x) (λh=>hb.needs.1 x h.1)
  ·exact ha.needs
 names:=by
  unfold jG;simp only[gp.names];split
  ·unfold rG busy;refine List.Pairwise.sublist (List.filter_sublist.map _) ?_;rw[bn];have:((λx:fF × gp=>x.1)∘λk=>(k,v (kL a k) (kL b k)))=id:=rfl;rw[this,List.map_id];exact Xi ha hb
  ·exact List.Pairwise.nil
 fields:=by
  unfold jG;simp only[gp.fields];split
  ·intro x hx;unfold rG busy at hx;simp only[aY,au,bE,ER]at hx;obtain⟨y,⟨⟨k,_,rfl⟩,h2⟩,rfl⟩:=hx;exact⟨hv _ _ (ha.field k) (hb.field k),h2⟩
  ·intro x hx;cases hx
end
def ow:Nat->gp->Prop
|0,c=>c=idC
|n+1,c=>(∀x,x∈c.fields->ow n x)/\∀x,x∈c.fn->ow n x
theorem JU:∀n,ow n idC
|0=>rfl
|n+1=>⟨(λx hx=>by cases hx),(λx hx=>by cases hx)⟩
theorem zk{n:Nat}{c:gp}(h:ow (n+1) c)(hl:c.names.length=c.fields.length)(k:fF):ow n (kL c k):=by
 unfold kL;by_cases q:k∈c.names
 ·exact h.1 _ (ES hl q)
 ·rw[xn q];exact JU n
theorem vH{n:Nat}{c:gp}(h:ow (n+1) c):ow n (jD c).1/\ow n (jD c).2:=by
 unfold jD;split
 ·rename_i f g l e;exact⟨h.2 f (by rw[e];simp),h.2 g (by rw[e];simp)⟩
 ·exact⟨JU n,JU n⟩
theorem OU(n:Nat)(a b:gp):lc (n+1) a b=jG (lc n) a b:=rfl
theorem JV:∀n,lc n idC idC=idC
|0=>rfl
|n+1=>by
 have ih:=JV n;simp[lc,jG,lD,tZ,o5,rG,busy,zi,zco,jD,idC,gp.tags,gp.needs,gp.names,gp.fields,gp.fn,iF,mU]at ih⊢;rw[ih];simp[JS]
theorem JW:∀(n:Nat) (a b:gp),iY a=true->iY b=true->iY (lc n a b)=true
|0,_,_,_,_=>DL
|n+1,a,b,ha,hb=>(uI _).2 (OT ((uI _).1 ha) ((uI _).1 hb) (JW n))
theorem JX:∀(n:Nat) {a b:gp},iY a=true->iY b=true->ow n a->ow n b->ow n (lc n a b)
|0,_,_,_,_,_,_=>rfl
| n +1,a,b,ma,mb,ha,hb=>by
 have Ma:=(uI _).1 ma;have Mb:=(uI _).1 mb;refine⟨λx hx=>?_,λx hx=>?_⟩
 ·unfold lc jG at hx;simp only[gp.fields]at hx;split at hx
  ·unfold rG busy at hx;simp only[aY,au]at hx;obtain⟨y,⟨⟨k,_,rfl⟩,h2⟩,rfl⟩:=hx;exact JX n (Ma.field k) (Mb.field k) (zk ha Ma.len k) (zk hb Mb.len k)
  ·cases hx
 ·unfold lc jG at hx;simp only[gp.fn]at hx;split at hx
  ·unfold mU at hx;split at hx
   ·cases hx
   ·simp only[aN,List.not_mem_nil,dR]at hx;rcases hx with rfl|rfl
    ·exact JX n Mb.pair.1 Ma.pair.1 (vH hb).1 (vH ha).1
    ·exact JX n Ma.pair.2 Mb.pair.2 (vH ha).2 (vH hb).2
  ·cases hx
section
variable {a b c:gp}
theorem May.field4(h:May a)(q:iF a 4≠0)(k:fF):kL a k=Go.Gr.idC:=by
 unfold kL;rw[h.t4 q];exact xn (by simp)
theorem May.pair5(h:May a)(q:iF a 5≠0):jD a=(Go.Gr.idC,Go.Gr.idC):=by
 unfold jD;rw[h.t5 q]
end
theorem Ay(i:Nat):iF idC i=0:=by
 unfold iF idC;simp only[gp.tags,aH]
 match i with
 |0|1|2|3|4|5=>rfl
 |i+6=>simp
theorem Xl(k:fF):kL idC k=idC:=rfl
theorem Xm:jD idC=(idC,idC):=rfl
theorem Bt:∀(n:Nat) (a:gp),ow n a->iY a=true->lc n a idC=a/\lc n idC a=a
|0,a,h,_=>by
 have:a=idC:=h;rw[this];exact⟨rfl,rfl⟩
| n +1,a,h,ma=>by
 have Ma:=(uI _).1 ma;have v0:=JV n;have M1:May (jG (lc n) a idC):=OT Ma May.idC (JW n);have M2:May (jG (lc n) idC a):=OT May.idC Ma (JW n);constructor
 ·rw[OU];refine May.ext M1 Ma (Xe M1.tags Ma.tags λi=>?_) ?_ (λk=>?_) ?_
  ·have:=DN (v:=lc n) Ma May.idC i;rw[Ay]at this;refine this.trans ?_;split
   ·rename_i q;exact q.symm
   ·rfl
  ·show tZ a idC=a.needs;unfold tZ;split
   ·show o5 a.needs []=a.needs;simp[o5]
   ·rfl
  ·rw[Xj Ma May.idC v0,DN Ma May.idC,Ay,Xl];by_cases q:iF a 4=0
   ·rw[aC (by rw[aC q])];exact(Bt n _ (zk h Ma.len k) (Ma.field k)).1
   ·rw[aB (by rw[aB q];exact q)];exact(Ma.field4 q k).symm
  ·rw[Xk v0,DN Ma May.idC,Ay,Xm];by_cases q:iF a 5=0
   ·rw[aC (by rw[aC q])];rw[(Bt n _ (vH h).1 Ma.pair.1).2,(Bt n _ (vH h).2 Ma.pair.2).1]
   ·rw[aB (by rw[aB q];exact q)];exact(Ma.pair5 q).symm
 ·rw[OU];refine May.ext M2 Ma (Xe M2.tags Ma.tags λi=>?_) ?_ (λk=>?_) ?_
  ·have:=DN (v:=lc n) May.idC Ma i;rw[Ay,aC rfl]at this;exact this
  ·show tZ idC a=a.needs;unfold tZ;rw[Ay,aC rfl];show o5 [] a.needs=a.needs;unfold o5;simp
  ·rw[Xj May.idC Ma v0,DN May.idC Ma,Ay,Xl,aC rfl];by_cases q:iF a 4=0
   ·rw[aC q];exact(Bt n _ (zk h Ma.len k) (Ma.field k)).2
   ·rw[aB q];exact(Ma.field4 q k).symm
  ·rw[Xk v0,DN May.idC Ma,Ay,Xm,aC rfl];by_cases q:iF a 5=0
   ·rw[aC q];rw[(Bt n _ (vH h).1 Ma.pair.1).1,(Bt n _ (vH h).2 Ma.pair.2).2]
   ·rw[aB q];exact(Ma.pair5 q).symm
end Go.Gr
namespace Go.Gr
open Go.Abs Go.Proofs List
def kP:List (fF × gp)->fF->gp->List (fF × gp)
|[],k,d=>[(k,d)]
|x::l,k,d=>if k=x.1 then(k,d)::l else x::kP l k d
theorem JY{k:fF}{d:gp}:∀{l:List (fF × gp)},(kP l k d).map (·.1)=if k∈l.map (·.1)then l.map (·.1)else l.map (·.1)++[k]
|[]=>by simp[kP]
| x::l=>by
 by_cases e:k=x.1
 ·simp[kP,e]
 ·have hh:kP (x::l) k d=x::kP l k d:=by simp[kP,e]
  have ih:=JY (k:=k) (d:=d) (l:=l);rw[hh,map_cons,ih];by_cases q:k∈l.map (·.1)
  ·rw[aC q,aC (by simp only[map_cons,aN];exact .inr q),map_cons]
  ·rw[aB q,aB (by simp only[map_cons,aN,dO];exact⟨e,q⟩),map_cons,cons_append]
theorem Xn{k:fF}{d:gp}:∀{l:List (fF × gp)} {q:fF},sI (kP l k d) q=if q=k then d else sI l q
|[],q=>by simp[kP,sI]
| x::l,q=>by
 by_cases e:k=x.1
 ·subst e;simp only[kP,if_true,sI];by_cases e':q=x.1<;>simp[e']
 ·simp only[kP,aB e,sI,Xn (l:=l)];by_cases e':q=x.1
  ·subst e';have:¬x.1=k:=λh=>e h.symm;simp[this]
  ·simp[e']
theorem Xo{k:fF}{d f:gp}:∀{l:List (fF × gp)},kP (kP l k f) k d=kP l k d
|[]=>by simp[kP]
|x::l=>by
 by_cases e:k=x.1
 ·simp[kP,e]
 ·simp[kP,e,Xo (l:=l)]
theorem six{l:List Int}(h:l.length=6):∃a b c d e f,l=[a,b,c,d,e,f]:=by
 match l,h with
 |[a,b,c,d,e,f],_=>exact⟨a,b,c,d,e,f,rfl⟩
def qV(L:List Int)(j:Nat):List Int:=L.take j++replicate (6-j) 0
theorem Xp{L:List Int}(hL:L.length=6){j:Nat}(h:j<6):(qV L j).set j L[j]=qV L (j+1):=by
 obtain⟨a,b,c,d,e,f,rfl⟩:=six hL
 match j,h with
 |0,_|1,_|2,_|3,_|4,_|5,_=>rfl
theorem Xq(l:List Int)(j:Nat)(x:Int):encI (l.set j x)=(encI l).set j [.int .i64 x]:=by simp[encI,fE]
def G6(v:gp->gp->gp)(a b:gp)(j:Nat)(l:List (fF × gp)):Prop:=
 l.map (·.1)=a.names++(b.names.take j).filter (λk=> !decide (k∈a.names))/\∀k,k∈l.map (·.1)->sI l k=if k∈b.names.take j then v (kL a k) (kL b k)else kL a k
structure rH (B:Nat) (d:gp):Prop where
 needs:d.needs.length<=B
 fields:d.fields.length<=B
 fn:d.fn.length<=B
theorem zl{l:List Int}(h:l.length=6){i:Nat}(hi:i<6):l[i]?=some (l.getD i 0):=by
 rw[aH,aA (by omega)];try rfl
theorem EU{α:Type}{l:List α}(h:l.Nodup){j:Nat}(hj:j<l.length):l[j]∉l.take j:=λhm=>by
 obtain⟨i,hi,e⟩:=bF hm;rw[getElem_take]at e;have hi':i<j:=by simp at hi;omega
 exact(bS.1 h) i j (by omega) hj hi' e
theorem zGf{α:Type}{l:List α}{j:Nat}(hj:j<l.length){k:α}:k∈l.take (j+1)↔k∈l.take j\/k=l[j]:=by
 rw[aJ hj,aK,aL]
theorem OV{l:List fF}{f:List gp}(h:l.length=f.length):(l.zip f).map (·.1)=l:=by
 rw[map_fst_zip (by omega)]
theorem zz1{l:List fF}{f:List gp}(h:l.length=f.length){j:Nat}:((l.zip f).take j).map (·.1)=l.take j:=by
 rw[map_take,OV h]
theorem Xr:∀{l:List fF} {f:List gp} {k:fF},l.length=f.length->k∈l->sI (l.zip f) k=sJ l f k
| n::l,x::f,k,h,hk=>by
 simp only[zip_cons_cons,sI,sJ];split
 ·rfl
 ·rename_i q;exact Xr (by simpa using h) ((aN.1 hk).resolve_left q)
|_::_,[],_,h,_=>by simp at h
theorem zHO{v:gp->gp->gp}{a b:gp}(Ma:May a):G6 v a b 0 (a.names.zip a.fields):=by
 refine⟨by rw[OV Ma.len];simp,λk hk=>?_⟩;rw[OV Ma.len]at hk;simp;exact Xr Ma.len hk
theorem zHP{v:gp->gp->gp}{a b:gp}{j:Nat}{l:List (fF × gp)}(Ma:May a)(Mb:May b)(hj:j<b.names.length)(h:G6 v a b j l){d:gp}(hd:d=v (kL a b.names[j]) (kL b b.names[j])):
  G6 v a b (j+1) (kP l b.names[j] d):=by
 obtain⟨h1,h2⟩:=h;have hnd:=sW Mb.names;have hnot:b.names[j]∉b.names.take j:=EU hnd hj;constructor
 ·rw[JY,h1,aJ hj,dJ];by_cases q:b.names[j]∈a.names
  ·rw[aC (by simp[q])];simp[q]
  ·rw[aB (by simp only[aK,au,dO];exact⟨q,λh=>hnot h.1⟩)];simp[q]
 ·intro k hk;rw[Xn];simp only[zGf hj];by_cases q:k=b.names[j]
  ·subst q;simp[hd]
  ·rw[aB q];have hk':k∈l.map (·.1):=by
    rw[JY]at hk;split at hk
    ·exact hk
    ·simp only[aK,aL]at hk;exact hk.resolve_right q
   rw[h2 k hk'];simp[q]
abbrev mg:Blk:=.box [.d (.sl true 1 []),.d (.sl true 2 []),.d (.sl true 1 []),.d (.sl true 5 []),.d (.sl true 5 [])]
abbrev wC(T:List Int)(N:List (fF × Int)):Blk:=.box [.d (.sl false 1 (encI T)),.d (.sl false 2 (iK N)),.d (.sl true 1 []),.d (.sl true 5 []),.d (.sl true 5 [])]
abbrev EW(a b:gp):List (Nat × AV):=[(2,.c (.d (.rp a.enc 0))),(3,.c (.d (.rp b.enc 0))),(4,.c (.ptr 0 0)),(5,.c (.ptr 2 0))]
@[simp] theorem zJ5:iK []=[]:=rfl
@[simp] theorem zJ6:encI []=[]:=rfl
theorem St.forget{F:St->Prop}{t:List (Nat × AV)}{m:Hp}{n:Nat}(R:List (Nat × AV)->Hp->Prop)(hr:R t m)(h:∀T M,R T M->F ⟨T,M,n⟩):F ⟨t,m,n⟩:=h t m hr
theorem May.fn_len{c:gp}(h:May c):c.fn.length=0\/c.fn.length=2:=by
 rcases h.fn with e|⟨f,g,e,_⟩<;>rw[e]<;>simp
mutual
def nG(B:Nat):gp->Prop
|.mk t n s f g=>n.length<=B/\f.length<=B/\g.length<=B/\wE B f/\wE B g
def wE(B:Nat):List gp->Prop
|[]=>True
|c::l=>nG B c/\wE B l
end
theorem Xt(B:Nat):∀l:List gp,wE B l↔∀x,x∈l->nG B x
|[]=>by simp[wE]
|c::l=>by simp[wE,Xt B l]
theorem yx(B:Nat)(d:gp):nG B d↔d.needs.length<=B/\d.fields.length<=B/\d.fn.length<=B/\(∀x,x∈d.fields->nG B x)/\∀x,x∈d.fn->nG B x:=by
 cases d;simp only[nG,Xt,gp.needs,gp.fields,gp.fn]
theorem Az(B:Nat):nG B idC:=by simp[nG,idC,wE]
theorem JZ{B:Nat}{c:gp}(h:nG B c)(hl:c.names.length=c.fields.length)(k:fF):nG B (kL c k):=by
 unfold kL;by_cases q:k∈c.names
 ·exact((yx B c).1 h).2.2.2.1 _ (ES hl q)
 ·rw[xn q];exact Az B
theorem Bu{B:Nat}{c:gp}(h:nG B c):nG B (jD c).1/\nG B (jD c).2:=by
 have h':=((yx B c).1 h).2.2.2.2;unfold jD;split
 ·rename_i f g l e;rw[e]at h';exact⟨h' f (by simp),h' g (by simp)⟩
 ·exact⟨Az B,Az B⟩
theorem J2{B:Nat}{c:gp}(h:nG B c):rH B c:=by
 have:=(yx B c).1 h;exact⟨this.1,this.2.1,this.2.2.1⟩
theorem OW{B B':Nat}(hB:B<=B'):∀(n:Nat) {c:gp},ow n c->nG B c->nG B' c
|0,c,hn,h=>by
 have:c=idC:=hn;rw[this];exact Az B'
|n+1,c,hn,h=>by
 rw[yx]at h⊢;exact⟨by omega,by omega,by omega,λx hx=>OW hB n (hn.1 x hx) (h.2.2.2.1 x hx),λx hx=>OW hB n (hn.2 x hx) (h.2.2.2.2 x hx)⟩
theorem zkS(a b:List (fF × Int)):(o5 a b).length<=a.length+b.length:=by
 unfold o5;have:=bP (λn:fF × Int=> !a.any λm=>decide (m.1=n.1)) b;rw[aT];omega
theorem zly(a b:gp):(zi a b).length<=a.names.length+b.names.length:=by
 unfold zi zco;have:=bP (λk=> !decide (k∈a.names)) b.names;simp only[aV,length_mergeSort,aT];omega
theorem J3{A B:Nat}(hAB:2<=A+B):∀(n:Nat) {a b:gp},ow n a->ow n b->iY a=true->iY b=true->nG A a->nG B b->nG (A+B) (lc n a b)/\nG (A+B) (lc n b a)
|0,_,_,_,_,_,_,_,_=>⟨Az _,Az _⟩
| n +1,a,b,ia,ib,ma,mb,sa,sb=>by
 have Ma:=(uI _).1 ma;have Mb:=(uI _).1 mb;have ta:=(yx A a).1 sa;have tb:=(yx B b).1 sb;have la:=Ma.len;have lb:=Mb.len;have ihf:=λk=>J3 hAB n (zk ia Ma.len k) (zk ib Mb.len k) (Ma.field k) (Mb.field k) (JZ sa Ma.len k) (JZ sb Mb.len k);have ih1:=J3 hAB n (vH ia).1 (vH ib).1 Ma.pair.1 Mb.pair.1 (Bu sa).1 (Bu sb).1;have ih2:=J3 hAB n (vH ia).2 (vH ib).2 Ma.pair.2 Mb.pair.2 (Bu sa).2 (Bu sb).2;have key:∀(c d:gp),c.needs.length+d.needs.length<=A+B->c.names.length+d.names.length<=A+B->(∀k,nG (A+B) (lc n (kL c k) (kL d k)))->nG (A+B) (lc n (jD d).1 (jD c).1)->nG (A+B) (lc n (jD c).2 (jD d).2)->nG (A+B) (jG (lc n) c d):=λc d h1 h2 h3 h4 h5=>by
  rw[yx];have hb:(rG (lc n) c d).length<=A+B:=by
   unfold rG busy;refine aj (bP _ _) ?_;rw[aV];exact aj (zly c d) h2
  refine⟨?_,?_,?_,?_,?_⟩
  ·show(tZ c d).length<=A+B;unfold tZ;split
   ·exact aj (zkS _ _) h1
   ·omega
  ·unfold jG;simp only[gp.fields];split
   ·rw[aV];exact hb
   ·simp
  ·unfold jG;simp only[gp.fn];split
   ·unfold mU;split
    ·simp
    ·simpa using hAB
   ·simp
  ·intro x hx;unfold jG at hx;simp only[gp.fields]at hx;split at hx
   ·unfold rG busy at hx;simp only[aY,au]at hx;obtain⟨y,⟨⟨k,_,rfl⟩,_⟩,rfl⟩:=hx;exact h3 k
   ·cases hx
  ·intro x hx;unfold jG at hx;simp only[gp.fn]at hx;split at hx
   ·unfold mU at hx;split at hx
    ·cases hx
    ·simp only[aN,bv,dR]at hx;rcases hx with rfl|rfl
     ·exact h4
     ·exact h5
   ·cases hx
 exact⟨key a b (by omega) (by omega) (λk=>(ihf k).1) ih1.2 ih2.1,key b a (by omega) (by omega) (λk=>(ihf k).2) ih1.1 ih2.2⟩
def J4(n:Nat)(a b:gp):gp:=if(iY a&&iY b)=true then lc n a b else xm
end Go.Gr
namespace Go.Gr
open Go.Abs Go.Proofs
theorem zb5(a b:fF):Op.bytesLess a.data.toList b.data.toList=decide (jw a b):=JR _ _
structure Mrg (a b:List fF) (i k:Nat) (l:List fF):Prop where
 hi:i<=a.length
 hk:k<=b.length
 len:l.length<=i+k
 rises:l.Pairwise jw
 mem:∀x,x∈l↔x∈a.take i\/x∈b.take k
 la:∀x,x∈l->∀j (h:j<a.length),i<=j->jw x a[j]
 lb:∀x,x∈l->∀j (h:j<b.length),k<=j->jw x b[j]
structure RcH (v:gp->gp->gp) (a b:gp):Prop where
 Ma:May a
 Mb:May b
 v0:v idC idC=idC
 sa:rH 536870912 a
 sb:rH 536870912 b
 H1:∀k,k∈zi a b->gY Pg 69 [.agg (kL a k).enc,.agg (kL b k).enc] (.agg (v (kL a k) (kL b k)).enc)
 H2:0<a.fn.length+b.fn.length->gY Pg 69 [.agg (jD b).1.enc,.agg (jD a).1.enc] (.agg (v (jD b).1 (jD a).1).enc)
 H3:0<a.fn.length+b.fn.length->gY Pg 69 [.agg (jD a).2.enc,.agg (jD b).2.enc] (.agg (v (jD a).2 (jD b).2).enc)
def jy(C:gp)(k:fF)(d:gp):gp:=if lX d idC=true then C else .mk C.tags C.needs (C.names++[k]) (C.fields++[d]) C.fn
def oP(C:gp)(k:fF)(lb:Int):gp:=.mk C.tags (C.needs++[(k,lb)]) C.names C.fields C.fn
def oz(v:gU->gU->Int->gp)(lb:Int):List fF->List gU->gp->gp
|k::ks,t::ts,C=>oz v lb ks ts (jy C k (v t noT lb))
|_,_,C=>C
def pE(v:gU->gU->Int->gp)(m:iw)(lb:Int):List fF->List gU->gp->gp
|k::ks,t::ts,C=>
 let c1:=if(kM m.t k).2=false then oP C k lb else C
 pE v m lb ks ts (if(kM m.t k).2=true\/m.opn=true then jy c1 k (v (kM m.t k).1 t lb)else c1)
|_,_,C=>C
def ul(v:gU->gU->Int->gp)(m n:iw)(lb:Int)(C:gp):gp:=
 if n.opn=true then(if m.opn=true then C else oz v lb m.t.names m.t.kids C)else pE v m lb n.t.names n.t.kids C
@[simp] theorem iw.gt0(p:iw)(h:0<p.enc.length):p.enc[0]=.int .i64 p.tag:=rfl
@[simp] theorem iw.gt1(p:iw)(h:1<p.enc.length):p.enc[1]=.bool p.opn:=rfl
@[simp] theorem DR(C:gp)(k:fF)(lb:Int):(oP C k lb).needs=C.needs++[(k,lb)]:=rfl
@[simp] theorem zhR(C:gp)(k:fF)(lb:Int):(oP C k lb).names=C.names:=rfl
@[simp] theorem zhS(C:gp)(k:fF)(lb:Int):(oP C k lb).fields=C.fields:=rfl
def oQ(x:Int):Int:=if x%2=0 then x+1 else x-1
def tq(C:gp)(i:Nat)(x:Int):gp:=.mk (C.tags.set i x) C.needs C.names C.fields C.fn
def OX(C:gp)(g:List gp):gp:=.mk C.tags C.needs C.names C.fields g
def yI(v:gU->gU->Int->gp)(R:List iw)(lb:Int)(m:iw)(C:gp):gp:=
 if(kH R m.tag).2=false then tq C m.tag.toNat lb
 else if m.tag=5 then OX C (mU (v (je (kH R 5).1.t) (je m.t) (oQ lb)) (v (jf m.t) (jf (kH R 5).1.t) lb))
 else if m.tag=4 then ul v m (kH R 4).1 lb C else C
def vI(v:gU->gU->Int->gp)(R:List iw)(lb:Int):List iw->gp->gp
|[],C=>C
|m::l,C=>vI v R lb l (yI v R lb m C)
def sZ:Nat->gU->gU->Int->gp
|0,_,_,_=>idC
|n+1,a,b,lb=>if a.kind=0/\b.kind=0 then idC else vI (sZ n) (ko b) lb (ko a) idC
theorem Xu(C:gp)(k:fF)(d:gp):(jy C k d).tags=C.tags/\(jy C k d).fn=C.fn:=by
 unfold jy;split<;>exact⟨rfl,rfl⟩
theorem Xv(v:gU->gU->Int->gp)(lb:Int):∀(ns:List fF) (ks:List gU) (C:gp),(oz v lb ns ks C).tags=C.tags/\(oz v lb ns ks C).fn=C.fn
|[],_,C=>by rw[oz];exact⟨rfl,rfl⟩;intros;contradiction
|_::_,[],C=>by rw[oz];exact⟨rfl,rfl⟩;intros;contradiction
|n::ns,k::ks,C=>by
 rw[oz];have h:=Xv v lb ns ks (jy C n (v k noT lb));have h2:=Xu C n (v k noT lb);exact⟨h.1.trans h2.1,h.2.trans h2.2⟩
theorem Xw(v:gU->gU->Int->gp)(m:iw)(lb:Int):∀(ns:List fF) (ks:List gU) (C:gp),(pE v m lb ns ks C).tags=C.tags/\(pE v m lb ns ks C).fn=C.fn
|[],_,C=>by rw[pE];exact⟨rfl,rfl⟩;intros;contradiction
|_::_,[],C=>by rw[pE];exact⟨rfl,rfl⟩;intros;contradiction
| n::ns,k::ks,C=>by
 rw[pE];have h1:(if(kM m.t n).2=false then oP C n lb else C).tags=C.tags/\(if(kM m.t n).2=false then oP C n lb else C).fn=C.fn:=by split<;>exact⟨rfl,rfl⟩
 generalize (if(kM m.t n).2=false then oP C n lb else C)=c1 at*
 have h:=Xw v m lb ns ks (if(kM m.t n).2=true\/m.opn=true then jy c1 n (v (kM m.t n).1 k lb)else c1);have h2:(if(kM m.t n).2=true\/m.opn=true then jy c1 n (v (kM m.t n).1 k lb)else c1).tags=c1.tags/\(if(kM m.t n).2=true\/m.opn=true then jy c1 n (v (kM m.t n).1 k lb)else c1).fn=c1.fn:=by
  split
  ·exact Xu _ _ _
  ·exact⟨rfl,rfl⟩
 exact⟨h.1.trans (h2.1.trans h1.1),h.2.trans (h2.2.trans h1.2)⟩
theorem OY(v:gU->gU->Int->gp)(m n:iw)(lb:Int)(C:gp):(ul v m n lb C).tags=C.tags/\(ul v m n lb C).fn=C.fn:=by
 unfold ul;split
 ·split
  ·exact⟨rfl,rfl⟩
  ·exact Xv v lb _ _ _
 ·exact Xw v m lb _ _ _
abbrev boxM(p:iw):Blk:=.box (p.enc.map .d)
structure Xx (v:gU->gU->Int->gp) (L R:List iw) (lb:Int):Prop where
 dis:(L.map (·.tag)).Nodup
 tag:∀m,m∈L->0<=m.tag/\m.tag<6
 fn:∀m n,m∈L->n∈R->m.tag=5->n.tag=5->m.t.kids.length=2/\n.t.kids.length=2/\gY Pg 67 [.agg (je n.t).enc,.agg (je m.t).enc,.one (.int .i64 (oQ lb))] (.agg (v (je n.t) (je m.t) (oQ lb)).enc)/\gY Pg 67 [.agg (jf m.t).enc,.agg (jf n.t).enc,.one (.int .i64 lb)] (.agg (v (jf m.t) (jf n.t) lb).enc)
 rc:∀m n,m∈L->n∈R->m.tag=4->n.tag=4->m.t.names.length<=m.t.kids.length/\n.t.names.length<=n.t.kids.length/\m.t.kids.length<=1000/\n.t.kids.length<=1000/\
  (∀a,a∈m.t.kids->gY Pg 67 [.agg a.enc,.agg noT.enc,.one (.int .i64 lb)] (.agg (v a noT lb).enc))/\
  (∀k a,a∈n.t.kids->gY Pg 67 [.agg (kM m.t k).1.enc,.agg a.enc,.one (.int .i64 lb)] (.agg (v (kM m.t k).1 a lb).enc))
end Go.Gr
namespace Go.Gr
open Go.Abs Go.Proofs List
mutual
def oU:gU->Prop
|.mk k _ s l=>s.Pairwise jw/\(k=7->(l.map iJ).Pairwise (· < ·)/\2<=l.length)/\BA l
def BA:List gU->Prop
|[]=>True
|t::l=>oU t/\BA l
end
theorem Xy:∀l:List gU,BA l↔∀x,x∈l->oU x
|[]=>by simp[BA]
|t::l=>by simp[BA,Xy l]
theorem wo(t:gU):oU t↔t.names.Pairwise jw/\(t.kind=7->(t.kids.map iJ).Pairwise (· < ·)/\2<=t.kids.length)/\∀x,x∈t.kids->oU x:=by
 cases t;rw[oU,Xy];try rfl
def NF(t:gU):Prop:=jK t/\oU t
theorem NF.kid{t x:gU}(h:NF t)(hx:x∈t.kids):NF x:=⟨yG h.1 hx,((wo t).1 h.2).2.2 x hx⟩
theorem NF.base(k:Int)(h0:0<=k)(h4:k<=4):NF (bT k):=⟨vk k h0 h4,by simp[oU,bT,BA];omega⟩
theorem NF.no:NF noT:=NF.base 0 (by omega) (by omega)
theorem NF.bt5:NF (bT 5):=⟨(mH _).2 ⟨rfl,λx h=>(by cases h),.inr (.inl ⟨rfl,rfl,by decide,λx h=>(by cases h)⟩)⟩,by simp[oU,bT,BA]⟩
theorem NF.fn{a b:gU}(ha:NF a)(hb:NF b):NF (.mk 6 (bs []) [] [a,b]):=⟨(mH _).2 ⟨rfl,λx h=>by
 simp only[gU.kids,aN,bv,dR]at h;rcases h with rfl|rfl
 ·exact ha.1
 ·exact hb.1,.inr (.inr (.inl ⟨rfl,rfl,rfl⟩))⟩,by simp[oU,BA];exact⟨ha.2,hb.2⟩⟩
theorem OZ{t:gU}(h:jK t)(h0:t.kind≠0)(h7:t.kind≠7):iJ t=t.kind-1/\1<=t.kind/\t.kind<=6:=by
 have hk:1<=t.kind/\t.kind<=6:=by
  rcases((mH t).1 h).2.2 with⟨a,b,_⟩|⟨a,_⟩|⟨a,_⟩|⟨a,_⟩<;>omega
 refine⟨?_,hk⟩;unfold iJ;rw[aB (by omega)]
theorem J5{t:gU}(h:NF t):((ko t).map (·.tag)).Nodup/\∀p,p∈ko t->0<=p.tag/\p.tag<6/\NF p.t/\(p.tag=5->p.t.kids.length=2)/\(∀x,x∈p.t.kids->jL x+(if t.kind=0 then 0 else 1)<=jL t)/\(p.tag=4->∀x,x∈p.t.kids->jL x+1<=jL t):=by
 have d1:=za t;unfold ko;by_cases h0:t.kind=0
 ·rw[aC h0];refine⟨by decide,λp hp=>?_⟩;have e0:jL noT=1:=rfl;simp only[aN,bv,dR]at hp;simp only[h0,aC];rcases hp with rfl|rfl|rfl|rfl|rfl|rfl
  ·exact⟨by decide,by decide,NF.base 1 (by omega) (by omega),λh=>absurd h (by decide),λx hx=>(by cases hx),λ_ x hx=>(by cases hx)⟩
  ·exact⟨by decide,by decide,NF.base 2 (by omega) (by omega),λh=>absurd h (by decide),λx hx=>(by cases hx),λ_ x hx=>(by cases hx)⟩
  ·exact⟨by decide,by decide,NF.base 3 (by omega) (by omega),λh=>absurd h (by decide),λx hx=>(by cases hx),λ_ x hx=>(by cases hx)⟩
  ·exact⟨by decide,by decide,NF.base 4 (by omega) (by omega),λh=>absurd h (by decide),λx hx=>(by cases hx),λ_ x hx=>(by cases hx)⟩
  ·exact⟨by decide,by decide,NF.bt5,λh=>absurd h (by decide),λx hx=>(by cases hx),λ_ x hx=>(by cases hx)⟩
  ·refine⟨by decide,by decide,NF.fn NF.no NF.no,λ_=>rfl,λx hx=>?_,λh=>absurd h (by decide)⟩;simp only[gU.kids,aN,bv,dR]at hx;rcases hx with rfl|rfl<;>omega
 ·rw [aB h0];by_cases h7:t.kind=7
  ·rw[aB (by omega)];have ho:=((wo t).1 h.2).2.1 h7;refine⟨?_,λp hp=>?_⟩
   ·rw[bn];have he:((λx:iw=>x.tag)∘λk=>(⟨iJ k,false,k⟩:iw))=iJ:=rfl;rw[he];exact ho.1.imp λh=>by omega
   ·obtain⟨x,hx,rfl⟩:=aY.1 hp;have hk:1<=x.kind/\x.kind<=6:=by
     rcases((mH t).1 h.1).2.2 with⟨_,q,_⟩|⟨q,_⟩|⟨q,_⟩|⟨_,_,_,q⟩
     ·omega
     ·omega
     ·omega
     ·exact q x hx
    have ht:=(OZ (h.kid hx).1 (by omega) (by omega)).1;simp only;have hd:∀y,y∈x.kids->jL y+1<=jL t:=λy hy=>by
     have:=wY hy;have:=wY hx;omega
    refine⟨by omega,by omega,h.kid hx,λq=>EJ (h.kid hx).1 (by omega),λy hy=>?_,λ_=>hd⟩;rw[aB h0];exact hd y hy
  ·rw[aC h7];refine⟨by simp,λp hp=>?_⟩;simp only[aL]at hp;subst hp;have ht:=OZ h.1 h0 h7;simp only;refine⟨by omega,by omega,h,λq=>EJ h.1 (by omega),λy hy=>?_,λ_ y hy=>wY hy⟩;have:=wY hy;rw[aB h0];omega
theorem Xz(v:gU->gU->Int->gp)(R:List iw)(lb:Int):∀(L:List iw) (C:gp),(vI v R lb L C).tags.length=C.tags.length
|[],C=>rfl
|m::l,C=>by
 rw[vI,Xz v R lb l];unfold yI;split
 ·simp[tq,gp.tags]
 split
 ·rfl
 split
 ·rw[(OY _ _ _ _ _).1]
 ·rfl
theorem NF.field{t:gU}(h:NF t)(k:fF):NF (kM t k).1/\((kM t k).1∈t.kids\/(kM t k).1=noT):=by
 cases q:(kM t k).2 with
 |true=>have hm:=Ir t.names t.kids k q;exact⟨h.kid hm,.inl hm⟩
 | false=>
  have:(kM t k).1=noT:=by
   have hz:∀(ns:List fF) (ks:List gU),(oF ns ks k).2=false->(oF ns ks k).1=noT:=λns=>by
    induction ns with
    |nil=>intro ks _;rw[oF];intros;contradiction
    | cons n ns ih=>
     intro ks;cases ks with
     |nil=>intro _;rw[oF];intros;contradiction
     |cons x ks=>
      rw[oF];split
      ·intro h;cases h
      ·exact ih ks
   exact hz _ _ q
  rw[this];exact⟨NF.no,.inr rfl⟩
structure RI (C:gp) (ns:List fF):Prop where
 len:C.names.length=C.fields.length
 names:C.names.Pairwise jw
 fields:∀x,x∈C.fields->iY x=true/\x≠idC/\nG 16 x
 needs:(∀x,x∈C.needs->x.2≠0)/\(C.needs.map (·.1)).Nodup
 an:∀x,x∈C.names->∀k,k∈ns->jw x k
 ad:∀x,x∈C.needs->∀k,k∈ns->jw x.1 k
theorem RI.put{C:gp}{k:fF}{ns:List fF}(h:RI C (k::ns))(hk:(k::ns).Pairwise jw){d:gp}(hd:iY d=true)(sd:nG 16 d):RI (jy C k d) ns/\(jy C k d).names.length<=C.names.length+1/\(jy C k d).needs=C.needs:=by
 have hk':=bJ.1 hk;have h0:RI C ns:=⟨h.len,h.names,h.fields,h.needs,λx hx k hk=>h.an x hx k (by simp[hk]),λx hx k hk=>h.ad x hx k (by simp[hk])⟩
 unfold jy;split
 ·exact⟨h0,by omega,rfl⟩
 ·rename_i q;refine⟨⟨?_,?_,?_,h.needs,?_,h0.ad⟩,?_,rfl⟩
  ·simpa[gp.names,gp.fields]using h.len
  ·simp only[gp.names];exact cO.2 ⟨h.names,by simp,λx hx y hy=>by rw[aL.1 hy];exact h.an x hx k (by simp)⟩
  ·intro x hx;simp only[gp.fields,aK,aL]at hx;rcases hx with hx|rfl
   ·exact h.fields x hx
   ·exact⟨hd,λe=>q ((Aw _ _).2 e),sd⟩
  ·intro x hx y hy;simp only[gp.names,aK,aL]at hx;rcases hx with hx|rfl
   ·exact h0.an x hx y hy
   ·exact hk'.1 y hy
  ·simp[gp.names]
theorem RI.tail{C:gp}{k:fF}{ns:List fF}(h:RI C (k::ns)):RI C ns:=⟨h.len,h.names,h.fields,h.needs,λx hx k hk=>h.an x hx k (by simp[hk]),λx hx k hk=>h.ad x hx k (by simp[hk])⟩
section
variable {v:gU->gU->Int->gp} {lb:Int} (l2:2<=lb) (hv:∀x y,NF x->NF y->iY (v x y lb)=true/\nG 16 (v x y lb))
include hv in
theorem YA:∀(ns:List fF) (ks:List gU) (C:gp),ns.Pairwise jw->(∀x,x∈ks->NF x)->RI C ns->RI (oz v lb ns ks C) []/\(oz v lb ns ks C).names.length<=C.names.length+ns.length/\(oz v lb ns ks C).needs=C.needs
|[],ks,C,_,_,h=>by rw[oz];exact⟨h,by omega,rfl⟩;intros;contradiction
|n::ns,[],C,_,_,h=>by rw[oz];exact⟨⟨h.len,h.names,h.fields,h.needs,λ_ _ k hk=>(by cases hk),λ_ _ k hk=>(by cases hk)⟩,by omega,rfl⟩;intros;contradiction
|n::ns,k::ks,C,hn,hk,h=>by
 rw[oz];have h1:=hv k noT (hk k (by simp)) NF.no;obtain⟨g1,g2,g3⟩:=h.put hn h1.1 h1.2;have h2:=YA ns ks (jy C n (v k noT lb)) (bJ.1 hn).2 (λx hx=>hk x (by simp[hx])) g1;exact⟨h2.1,by have:=h2.2.1;simp only[length_cons];omega,h2.2.2.trans g3⟩
include l2 in
theorem RI.need{C:gp}{k:fF}{ns:List fF}(h:RI C (k::ns)):(∀x,x∈C.names->jw x k)/\((oP C k lb).needs.map (·.1)).Nodup/\(∀x,x∈(oP C k lb).needs->x.2≠0):=by
 refine⟨λx hx=>h.an x hx k (by simp),?_,λx hx=>?_⟩
 ·rw[DR,map_append];refine bu.2 ⟨h.needs.2,by simp,λx hx y hy e=>?_⟩;obtain⟨z,hz,rfl⟩:=aY.1 hx;simp only[map_cons,map_nil,aL]at hy;have:=h.ad z hz k (by simp);rw[e,hy]at this;exact Br _ this
 ·rw[DR,aK,aL]at hx;rcases hx with hx|rfl
  ·exact h.needs.1 x hx
  ·simp only;omega
include l2 hv in
theorem YB(m:iw)(nm:NF m.t):∀(ns:List fF) (ks:List gU) (C:gp),ns.Pairwise jw->(∀x,x∈ks->NF x)->RI C ns->RI (pE v m lb ns ks C) []/\(pE v m lb ns ks C).names.length<=C.names.length+ns.length/\(pE v m lb ns ks C).needs.length<=C.needs.length+ns.length
|[],ks,C,_,_,h=>by rw[pE];exact⟨h,by omega,by omega⟩;intros;contradiction
|n::ns,[],C,_,_,h=>by rw[pE];exact⟨⟨h.len,h.names,h.fields,h.needs,λ_ _ k hk=>(by cases hk),λ_ _ k hk=>(by cases hk)⟩,by omega,by omega⟩;intros;contradiction
| n ::ns,k::ks,C,hn,hk,h=>by
 rw[pE];have hn':=bJ.1 hn;have h1:=hv (kM m.t n).1 k (nm.field n).1 (hk k (by simp));generalize v (kM m.t n).1 k lb=d at*
 obtain⟨C2,hC2⟩:∃C2,(if(kM m.t n).2=true\/m.opn=true then jy (if(kM m.t n).2=false then oP C n lb else C) n d else(if(kM m.t n).2=false then oP C n lb else C))=C2:=⟨_,rfl⟩
 show RI (pE v m lb ns ks _) []/\_;have key:RI C2 ns/\C2.names.length<=C.names.length+1/\C2.needs.length<=C.needs.length+1:=by
  have hP:RI (jy C n d) ns/\(jy C n d).names.length<=C.names.length+1/\(jy C n d).needs=C.needs:=h.put hn h1.1 h1.2;have hN:=h.need l2;by_cases q:(kM m.t n).2=false
  ·rw[aC q]at hC2;have e1:∀D:gp,RI D ns->D.needs=C.needs->RI (oP D n lb) ns:=λD hD eD=>by
    have hdn:(oP D n lb).needs=(oP C n lb).needs:=by rw[DR,DR,eD]
    refine⟨hD.len,hD.names,hD.fields,by rw[hdn];exact⟨hN.2.2,hN.2.1⟩,hD.an,λx hx y hy=>?_⟩;rw[DR,aK,aL]at hx;rcases hx with hx|rfl
    ·exact hD.ad x hx y hy
    ·exact hn'.1 y hy
   by_cases o:(kM m.t n).2=true\/m.opn=true
   ·rw[aC o]at hC2;have e2:jy (oP C n lb) n d=oP (jy C n d) n lb:=by
     unfold jy oP;split<;>rfl
    rw[<-hC2,e2];exact⟨e1 _ hP.1 hP.2.2,hP.2.1,by rw[DR,hP.2.2];simp⟩
   ·rw[aB o]at hC2;rw[<-hC2];exact⟨e1 _ h.tail rfl,by simp,by simp⟩
  ·rw[aB q]at hC2;have o:(kM m.t n).2=true\/m.opn=true:=.inl (by simpa using q);rw[aC o]at hC2;rw[<-hC2];exact⟨hP.1,hP.2.1,by rw[hP.2.2];omega⟩
 rw[hC2];have h2:=YB m nm ns ks C2 hn'.2 (λx hx=>hk x (by simp[hx])) key.1;exact⟨h2.1,by have:=h2.2.1;simp only[length_cons];omega,by have:=h2.2.2;simp only[length_cons];omega⟩
include l2 hv in
theorem zIV(m n:iw)(nm:NF m.t)(nn:NF n.t)(C:gp)(c1:C.needs=[])(c2:C.names=[])(c3:C.fields=[]):
  RI (ul v m n lb C) []/\(ul v m n lb C).names.length<=16/\(ul v m n lb C).needs.length<=16:=by
 have h0:∀ns,RI C ns:=λns=>⟨by rw[c2,c3];rfl,by rw[c2];simp,(by rw[c3];intro x hx;cases hx),by rw[c1];exact⟨λx hx=>(by cases hx),by simp⟩,(by rw[c2];intro x hx;cases hx),(by rw[c1];intro x hx;cases hx)⟩
 have hm:=Bg nm.1;have hn:=Bg nn.1;unfold ul;split
 ·split
  ·exact⟨h0 [],by rw[c2];simp,by rw[c1];simp⟩
  ·have h:=YA hv m.t.names m.t.kids C ((wo _).1 nm.2).1 (λx hx=>nm.kid hx) (h0 _);exact⟨h.1,by have:=h.2.1;rw[c2]at this;simp only[length_nil]at this;omega,by rw[h.2.2,c1];simp⟩
 ·have h:=YB l2 hv m nm n.t.names n.t.kids C ((wo _).1 nn.2).1 (λx hx=>nn.kid hx) (h0 _);exact⟨h.1,by have:=h.2.1;rw[c2]at this;simp only[length_nil]at this;omega,by have:=h.2.2;rw[c1]at this;simp only[length_nil]at this;omega⟩
end
theorem O0(C:gp)(i:Nat)(x:Int)(j:Nat)(h:j≠i):iF (tq C i x) j=iF C j:=by
 unfold iF tq;simp only[gp.tags,aH];rw[getElem?_set_ne (Ne.symm h)]
structure MI (C:gp) (done:List Int):Prop where
 may:May C
 n4:(4:Int)∉done->iF C 4=0/\C.needs=[]/\C.names=[]/\C.fields=[]
 n5:(5:Int)∉done->iF C 5=0/\C.fn=[]
 sm:nG 16 C
theorem MI.step{v:gU->gU->Int->gp}{R:List iw}{lb:Int}(l2:2<=lb)(hv:∀x y l,2<=l->NF x->NF y->iY (v x y l)=true/\nG 16 (v x y l)){C:gp}{done:List Int}{m:iw}(h:MI C done)(hm:m.tag∉done)(mt:0<=m.tag/\m.tag<6)(nm:NF m.t)(m5:m.tag=5->m.t.kids.length=2)
  (hR:∀p,p∈R->NF p.t/\(p.tag=5->p.t.kids.length=2)):MI (yI v R lb m C) (done++[m.tag]):=by
 have hsm:=(yx _ _).1 h.sm;unfold yI;split
 ·have h4:m.tag.toNat≠4->iF (tq C m.tag.toNat lb) 4=iF C 4:=λq=>O0 _ _ _ _ (Ne.symm q);have h5:m.tag.toNat≠5->iF (tq C m.tag.toNat lb) 5=iF C 5:=λq=>O0 _ _ _ _ (Ne.symm q);refine⟨⟨by simpa[tq,gp.tags]using h.may.tags,h.may.len,h.may.fn,λq=>?_,λq=>?_,h.may.needs,h.may.names,h.may.fields⟩,λq=>?_,λq=>?_,?_⟩
  ·by_cases e:m.tag=4
   ·exact(h.n4 (e▸hm)).2.2.1
   ·rw[h4 (by omega)]at q;exact h.may.t4 q
  ·by_cases e:m.tag=5
   ·exact(h.n5 (e▸hm)).2
   ·rw[h5 (by omega)]at q;exact h.may.t5 q
  ·simp only[aK,aL,dO]at q;rw[h4 (by omega)];exact h.n4 q.1
  ·simp only[aK,aL,dO]at q;rw[h5 (by omega)];exact h.n5 q.1
  ·exact(yx _ _).2 hsm
 rename_i q;have hq:∀t,m.tag=t->(kH R t).1∈R/\(kH R t).1.tag=t:=λt e=>by
  subst e;exact EK (by simpa using q)
 split
 ·rename_i e5;have hp:=hq 5 e5;have nq:=hR _ hp.1;have m2:=m5 e5;have q2:=nq.2 hp.2;have f0:=hv (je (kH R 5).1.t) (je m.t) (oQ lb) (by unfold oQ;split<;>omega) (nq.1.kid (Iu q2).1) (nm.kid (Iu m2).1);have f1:=hv (jf m.t) (jf (kH R 5).1.t) lb l2 (nm.kid (Ff m2).1) (nq.1.kid (Ff q2).1);have n5:=h.n5 (e5▸hm);generalize v (je (kH R 5).1.t) (je m.t) (oQ lb)=f at*
  generalize v (jf m.t) (jf (kH R 5).1.t) lb=g at*
  refine⟨⟨h.may.tags,h.may.len,?_,h.may.t4,λq=>absurd n5.1 q,h.may.needs,h.may.names,h.may.fields⟩,λq=>?_,λq=>?_,?_⟩
  ·show mU f g=[]\/∃f' g',mU f g=[f',g']/\_;unfold mU;split
   ·exact .inl rfl
   ·rename_i e;refine .inr ⟨f,g,rfl,f0.1,f1.1,λx=>e ?_⟩;rw[x.1,x.2,JS];try rfl
  ·simp only[aK,aL,dO]at q;exact h.n4 q.1
  ·exact absurd (by rw[e5];simp) q
  ·refine(yx _ _).2 ⟨hsm.1,hsm.2.1,?_,hsm.2.2.2.1,?_⟩
   ·show(mU f g).length<=16;unfold mU;split<;>simp
   ·intro x hx;have hx:x∈mU f g:=hx;unfold mU at hx;split at hx
    ·cases hx
    ·simp only[aN,bv,dR]at hx;rcases hx with rfl|rfl
     ·exact f0.2
     ·exact f1.2
 split
 ·rename_i e5 e4;have hp:=hq 4 e4;have nq:=(hR _ hp.1).1;obtain⟨c0,c1,c2,c3⟩:=h.n4 (e4▸hm);have hr:=zIV l2 (λx y nx ny=>hv x y lb l2 nx ny) m (kH R 4).1 nm nq C c1 c2 c3;have hk:=OY v m (kH R 4).1 lb C;generalize ul v m (kH R 4).1 lb C=C' at*
  have hz:∀i,iF C' i=iF C i:=λi=>by unfold iF;rw[hk.1]
  refine⟨⟨by rw[hk.1];exact h.may.tags,hr.1.len,by rw[hk.2];exact h.may.fn,λq=>absurd (by rw[hz];exact c0) q,λq=>by rw[hz]at q;rw[hk.2];exact h.may.t5 q,hr.1.needs,hr.1.names,λx hx=>⟨(hr.1.fields x hx).1,(hr.1.fields x hx).2.1⟩⟩,λq=>absurd (by rw[e4];simp) q,λq=>?_,?_⟩
  ·simp only[aK,aL,dO]at q;rw[hz,hk.2];exact h.n5 q.1
  ·exact(yx _ _).2 ⟨hr.2.2,by rw[<-hr.1.len];exact hr.2.1,by rw[hk.2];exact hsm.2.2.1,λx hx=>(hr.1.fields x hx).2.2,by rw[hk.2];exact hsm.2.2.2.2⟩
 ·rename_i e5 e4;refine⟨h.may,λq=>?_,λq=>?_,h.sm⟩
  ·simp only[aK,aL,dO]at q;exact h.n4 q.1
  ·simp only[aK,aL,dO]at q;exact h.n5 q.1
theorem MI.all{v:gU->gU->Int->gp}{R:List iw}{lb:Int}(l2:2<=lb)(hv:∀x y l,2<=l->NF x->NF y->iY (v x y l)=true/\nG 16 (v x y l))(hR:∀p,p∈R->NF p.t/\(p.tag=5->p.t.kids.length=2)):∀(L:List iw) (C:gp) (done:List Int),MI C done->(done++L.map (·.tag)).Nodup->(∀p,p∈L->0<=p.tag/\p.tag<6/\NF p.t/\(p.tag=5->p.t.kids.length=2))->∃d,MI (vI v R lb L C) d
|[],C,done,h,_,_=>⟨done,h⟩
|m::L,C,done,h,hn,hL=>by
 rw[vI];have hm:=hL m (by simp);have hnot:m.tag∉done:=λq=>(bu.1 hn).2.2 _ q m.tag (by simp) rfl;exact MI.all l2 hv hR L _ (done++[m.tag]) (h.step l2 hv hnot ⟨hm.1,hm.2.1⟩ hm.2.2.1 hm.2.2.2 hR) (by simpa using hn) (λp hp=>hL p (by simp[hp]))
theorem YC:∀(n:Nat) (a b:gU) (lb:Int),2<=lb->NF a->NF b->iY (sZ n a b lb)=true/\nG 16 (sZ n a b lb)
|0,a,b,lb,_,_,_=>⟨DL,Az _⟩
| n+1,a,b,lb,l2,na,nb=>by
 rw[sZ];split
 ·exact⟨DL,Az _⟩
 ·have pa:=J5 na;have pb:=J5 nb;obtain⟨d,hd⟩:=MI.all l2 (λx y l hl nx ny=>YC n x y l hl nx ny) (λp hp=>⟨(pb.2 p hp).2.2.1,(pb.2 p hp).2.2.2.1⟩) (ko a) idC [] ⟨May.idC,λ_=>⟨Ay 4,rfl,rfl,rfl⟩,λ_=>⟨Ay 5,rfl⟩,Az _⟩ (by simpa using pa.1) (λp hp=>⟨(pa.2 p hp).1,(pa.2 p hp).2.1,(pa.2 p hp).2.2.1,(pa.2 p hp).2.2.2.1⟩);exact⟨(uI _).2 hd.may,hd.sm⟩
theorem O1(a b:fF):EE a b=true↔jw a b:=by unfold EE;rw[zb5];exact decide_eq_true_iff
theorem YD{s:fF}:∀{ns:List fF},(∀n,n∈ns->jw n s)->jb s ns=ns.length
|[],_=>rfl
|n::l,h=>by rw[jb,aC ((O1 _ _).2 (h n (by simp))),YD λx hx=>h x (by simp[hx])];rfl
theorem YE{s:fF}:∀{ns:List fF},ns.Pairwise jw->ns[jb s ns]?≠some s->(∀x,x∈ns.take (jb s ns)->jw x s)/\∀x,x∈ns.drop (jb s ns)->jw s x
|[],_,_=>by simp[jb]
| n::l,hp,h=>by
 have hp':=bJ.1 hp;rw[jb]at h⊢;by_cases q:EE n s=true
 ·rw[aC q]at h⊢;have i:=YE hp'.2 (by simpa using h);refine⟨λx hx=>?_,λx hx=>i.2 x (by simpa using hx)⟩;rw[take_succ_cons]at hx;rcases aN.1 hx with rfl|hx
  ·exact(O1 _ _).1 q
  ·exact i.1 x hx
 ·rw[aB q]at h⊢;have hne:n≠s:=λe=>h (by simp[e]);have hs:jw s n:=(EQ hne).resolve_left λe=>q ((O1 _ _).2 e);refine⟨λx hx=>(by simp at hx),λx hx=>?_⟩;rw[drop_zero]at hx;rcases aN.1 hx with rfl|hx
  ·exact hs
  ·exact zh hs (hp'.1 x hx)
theorem zlO{s:fF}{ns:List fF}(hp:ns.Pairwise jw)(h:ns[jb s ns]?≠some s):(ns.take (jb s ns)++s::ns.drop (jb s ns)).Pairwise jw:=by
 have i:=YE hp h;have hp':=hp;rw[<-cB (jb s ns) ns]at hp';have hp':=cO.1 hp';refine cO.2 ⟨hp'.1,bJ.2 ⟨i.2,hp'.2.1⟩,λx hx y hy=>?_⟩;rcases aN.1 hy with rfl|hy
 ·exact i.1 x hx
 ·exact zh (i.1 x hx) (i.2 y hy)
theorem YF:∀(ss:List fF) (ts:List gU) (ns:List fF) (ks:List gU),ns.Pairwise jw->(kG ss ts ns ks).1.1.Pairwise jw
|[],ts,ns,ks,h=>by rw[kG];exact h;all_goals (intros;contradiction)
|s::ss,[],ns,ks,h=>by rw[kG];exact h;all_goals (intros;contradiction)
| s::ss,t::ts,ns,ks,h=>by
 rw[kG];split
 ·exact h
 ·rename_i q;exact YF ss ts _ _ (zlO h λe=>q (.inr e))
theorem G7:∀a b:List gU,jM (a++b)=jM a+jM b
|[],b=>by simp[jM]
|t::a,b=>by rw[cons_append,jM,jM,G7 a b];omega
theorem YG:∀(ss:List fF) (ts:List gU) (ns:List fF) (ks:List gU),jM (kG ss ts ns ks).1.2<=jM ks+jM ts
|[],ts,ns,ks=>by rw[kG];exact eH _ _;all_goals (intros;contradiction)
|s::ss,[],ns,ks=>by rw[kG];exact eH _ _;all_goals (intros;contradiction)
| s::ss,t::ts,ns,ks=>by
 rw[kG];split
 ·exact eH _ _
 ·have i:=YG ss ts (ns.take (jb s ns)++s::ns.drop (jb s ns)) (ks.take (jb s ns)++t::ks.drop (jb s ns));have e:=G7 (ks.take (jb s ns)) (ks.drop (jb s ns));rw[cB]at e;rw[G7,jM]at i;rw[jM];omega
theorem YH:∀(ss:List fF) (ts:List gU) (ns:List fF) (ks:List gU),ss.length=ts.length->ns.length=ks.length->(ns++ss).Pairwise jw->(∀x,x∈ss->nE x=true)->kG ss ts ns ks=((ns++ss,ks++ts),true)
|[],ts,ns,ks,h0,_,_,_=>by
 cases ts with
 |nil=>rw[kG,bM,bM];all_goals (intros;contradiction)
 |cons _ _=>simp at h0
|s::ss,[],ns,ks,h0,_,_,_=>by simp at h0
| s::ss,t::ts,ns,ks,h0,h1,h2,h3=>by
 have hp:=YD (s:=s) (ns:=ns) λn hn=>(cO.1 h2).2.2 n hn s (by simp);rw[kG,hp,aB]
 ·rw[bO,aQ,h1,bO,aQ,YH ss ts _ _ (by simpa using h0) (by simp[h1]) (by simpa using h2) λx hx=>h3 x (by simp[hx])];simp
 ·rw[h3 s (by simp)];simp
theorem O3{l:List gU}{B:Nat}(h:∀x,x∈l->jL x<=B):jg l<=B:=by
 induction l with
 |nil=>simp[jg]
 |cons t l ih=>
  rw[jg];have:=h t (by simp);have:=ih λx hx=>h x (by simp[hx]);omega
theorem YI(tag:Int)(l:List gU)(ks:List gU):(jc tag l false ks).1.2=ks\/∃x,x∈l/\iJ x=tag/\(jc tag l false ks).1.2=ks++[x]:=by
 have hT:∀(l:List gU) (ks:List gU),(jc tag l true ks).1.2=ks:=λl=>by
  induction l with
  |nil=>intro ks;rfl
  | cons x l ih=>
   intro ks;rw[jc];split
   ·rfl
   split
   ·exact ih ks
   ·simp only[if_true];split
    ·exact ih ks
    ·rfl
 induction l with
 |nil=>exact .inl rfl
 | cons x l ih=>
  rw[jc];split
  ·exact .inl rfl
  split
  ·rcases ih with h|⟨y,h1,h2,h3⟩
   ·exact .inl h
   ·exact .inr ⟨y,by simp[h1],h2,h3⟩
  ·rename_i q;refine .inr ⟨x,by simp,Decidable.not_not.1 q,?_⟩;simp only[af,if_false];split
   ·exact hT l _
   ·rfl
theorem YJ(p q:gU->Bool)(h:∀x,¬(p x=true/\q x=true)):∀l:List gU,jM (l.filter p)+jM (l.filter q)<=jM (l.filter λx=>p x||q x)
|[]=>by simp[jM]
|x::l=>by
 have i:=YJ p q h l;have hx:=h x;simp only[dS];cases hp:p x<;>cases hq:q x
 ·simpa using i
 ·simp[jM];omega
 ·simp[jM];omega
 ·exact absurd ⟨hp,hq⟩ hx
theorem O4(p:gU->Bool):∀l:List gU,jM (l.filter p)<=jM l
|[]=>by simp[jM]
|x::l=>by
 have i:=O4 p l;simp only[dS];split
 ·rw[jM,jM];omega
 ·rw[jM];omega
theorem YK(all:List gU):∀(l:List Int) (ks:List gU),l.Nodup->jM (qf all l ks).1<=jM ks+jM (all.filter λx=>decide (iJ x∈l))
|[],ks,_=>by rw[qf];exact eH _ _
| tag::l,ks,hn=>by
 have hn':=bZ.1 hn;have hf:=YJ (λx=>decide (iJ x=tag)) (λx=>decide (iJ x∈l)) (λx ⟨a,b⟩=>hn'.1 (by simp only[aI]at a b;rw[<-a];exact b)) all;have he:(λx=>decide (iJ x=tag)||decide (iJ x∈l))=λx:gU=>decide (iJ x∈tag::l):=by
  funext x;rw[<-Bool.decide_or];simp only[aN]
 rw[he]at hf;have h1:jM (jc tag all false ks).1.2<=jM ks+jM (all.filter λx=>decide (iJ x=tag)):=by
  rcases YI tag all ks with h|⟨x,h1,h2,h3⟩
  ·rw[h];omega
  ·rw[h3,G7];have:=Mt (l:=all.filter λx=>decide (iJ x=tag)) (x:=x) (au.2 ⟨h1,by simpa using h2⟩);simp only[jM];omega
 rw[qf];split
 ·have i:=YK all l (jc tag all false ks).1.2 hn'.2;omega
 ·simp only;omega
theorem YL(all:List gU):∀(l:List Int) (ks:List gU),l.Pairwise (· < ·)->(ks.map iJ).Pairwise (· < ·)->(∀x,x∈ks->∀t,t∈l->iJ x<t)->((qf all l ks).1.map iJ).Pairwise (· < ·)
|[],ks,_,h,_=>by rw[qf];exact h
| tag::l,ks,hl,h,hk=>by
 have hl':=bJ.1 hl;have h1:((jc tag all false ks).1.2.map iJ).Pairwise (· < ·)/\∀x,x∈(jc tag all false ks).1.2->∀t,t∈l->iJ x<t:=by
  rcases YI tag all ks with e|⟨x,h1,h2,h3⟩
  ·rw[e];exact⟨h,λx hx t ht=>hk x hx t (by simp[ht])⟩
  ·rw[h3];refine⟨?_,λy hy t ht=>?_⟩
   ·rw[map_append];refine cO.2 ⟨h,by simp,λa ha b hb=>?_⟩;obtain⟨z,hz,rfl⟩:=aY.1 ha;simp only[map_cons,map_nil,aL]at hb;rw[hb,h2];exact hk z hz tag (by simp)
   ·rcases aK.1 hy with hy|hy
    ·exact hk y hy t (by simp[ht])
    ·rw[aL.1 hy,h2];exact hl'.1 t ht
 rw[qf];split
 ·exact YL all l _ hl'.2 h1.1 h1.2
 ·exact h1.1
theorem YM:∀l:List gU,jM (l.flatMap ik)<=jM l
|[]=>by simp[jM]
| t::l=>by
 rw[flatMap_cons,G7,jM];have:=YM l;have:jM (ik t)<=jT t:=by
  unfold ik;split
  ·cases t;rw[jT];simp only[gU.kids];omega
  ·simp[jM]
 omega
theorem zmO{l:List gU}{x:gU}(h:x∈l.flatMap ik):jL x<=jg l:=by
 obtain⟨t,ht,hx⟩:=eO.1 h;have h1:=Bf ht;unfold ik at hx;split at hx
 ·have:=wY hx;omega
 ·rw[aL.1 hx];exact h1
theorem znM(k:Int)(s:List fF)(l:List gU)(hl:∀x,x∈l->oU x)(hk:5<=k/\k<=7)(h:(oK k s l).2=true):oU (oK k s l).1/\jT (oK k s l).1<=jM l+1/\jL (oK k s l).1<=jg l+1:=by
 unfold oK at h⊢;by_cases k5:k=5
 ·rw[aC k5]at h⊢;unfold y8 at h⊢;by_cases q:s.length≠l.length\/16<s.length
  ·rw[aC q]at h;cases h
  rw[aB q]at h⊢;have i:=Mq s l [] [] (by omega) rfl (by simp) h;have hc:=YG s l [] [];have hmem:∀x,x∈(kG s l [] []).1.2->x∈l:=λx hx=>by
   rcases i.2.2.2 x hx with hx|hx
   ·cases hx
   ·exact hx
  refine⟨(wo _).2 ⟨YF _ _ _ _ (by simp),λe=>absurd e (by simp only[gU.kind];decide),λx hx=>hl x (hmem x hx)⟩,?_,?_⟩
  ·rw[jT];simp only[jM]at hc;omega
  ·rw[jL];have:=O3 (l:=(kG s l [] []).1.2) (B:=jg l) λx hx=>Bf (hmem x hx);omega
 rw[aB k5]at h⊢;by_cases k6:k=6
 ·rw[aC k6]at h⊢;exact⟨(wo _).2 ⟨by simp[gU.names],λe=>absurd e (by simp only[gU.kind];decide),hl⟩,by rw[jT];omega,by rw[jL];omega⟩
 rw[aB k6]at h⊢;unfold zS at h⊢;have hm:=Ip (l.flatMap ik) [0,1,2,3,4,5] [];have hr:=YL (l.flatMap ik) [0,1,2,3,4,5] [] (by decide) (by simp) (by simp);have hc:=YK (l.flatMap ik) [0,1,2,3,4,5] [] (by decide);have hc2:=O4 (λx=>decide (iJ x∈([0,1,2,3,4,5]:List Int))) (l.flatMap ik);have hc3:=YM l;simp only at h⊢;generalize qf (l.flatMap ik) [0,1,2,3,4,5] []=r at*
 have hw:∀y,y∈r.1->oU y/\jL y<=jg l:=λy hy=>by
  rcases hm y hy with q|⟨q1,q2⟩
  ·cases q
  ·refine⟨?_,zmO q1⟩;obtain⟨t,ht,hx⟩:=eO.1 q1;unfold ik at hx;split at hx
   ·exact((wo t).1 (hl t ht)).2.2 y hx
   ·rw[aL.1 hx];exact hl t ht
 have hcnt:jM r.1<=jM l:=by simp only[jM]at hc;omega
 by_cases q:r.2=true
 ·rw [aC q]at h⊢;split
  ·rename_i x e;have:=hw x (by rw[e];simp);refine⟨this.1,?_,by simp only;omega⟩;rw[e]at hcnt;simp only[jM]at hcnt⊢;omega
  ·rename_i L e;have hlen:2<=r.1.length:=by
    split at h
    ·rename_i x e';exact absurd e' (e x)
    ·simp only[aI]at h
     match hr1:r.1,h,e with
     |[],h,_=>simp at h
     |[x],_,e=>exact absurd rfl (e x)
     |_::_::_,_,_=>simp
   refine⟨(wo _).2 ⟨by simp[gU.names],λ_=>⟨hr,hlen⟩,λx hx=>(hw x hx).1⟩,by simp only;rw[jT];omega,?_⟩;simp only;rw[jL];have:=O3 (l:=r.1) (B:=jg l) λx hx=>(hw x hx).2;omega
 ·rw[aB q]at h;cases h
mutual
theorem O5:∀t:gU,(ll t).2=true->oU (ll t).1/\jT (ll t).1<=jT t/\jL (ll t).1<=jL t
| .mk k n s l,h=>by
 rw[ll]at h⊢;by_cases q:5<=k/\k<=7
 ·rw[aC q]at h⊢;by_cases q2:(kV l).2=true
  ·rw[aC q2]at h⊢;have i:=YN l q2;have f:=znM k s _ i.1 q h;rw[jT,jL];exact⟨f.1,by omega,by omega⟩
  ·rw[aB q2]at h;cases h
 ·rw[aB q]at h⊢;by_cases q2:0<=k/\k<=4
  ·rw[aC q2];exact⟨(NF.base k q2.1 q2.2).2,by rw[jT];simp[bT,jT,jM],by rw[jL];simp[bT,jL,jg]⟩
  ·rw[aB q2]at h;cases h
theorem YN:∀l:List gU,(kV l).2=true->(∀x,x∈(kV l).1->oU x)/\jM (kV l).1<=jM l/\jg (kV l).1<=jg l
|[],_=>by rw[kV];exact⟨λx hx=>(by cases hx),aP _,aP _⟩
| t::l,h=>by
 rw[kV]at h⊢;by_cases q:(ll t).2=true
 ·rw[aC q]at h⊢;have a:=O5 t q;have b:=YN l h;refine⟨λx hx=>?_,by rw[jM,jM];omega,by rw[jg,jg];omega⟩;rcases aN.1 hx with rfl|hx
  ·exact a.1
  ·exact b.1 x hx
 ·rw[aB q]at h;cases h
end
theorem zm{t:gU}(h:iE t=true):NF t:=by
 have e:=F6.1 h;have f:=F5 e.1;refine⟨z8 h,?_⟩;rw[<-e.2,f.2.2.2];exact(O5 t f.1).1
end Go.Gr
