/- Texts of ours, joined and written short by a program of ours. -/
import Derived.Test.YtnbgmeamdkggeaaGreatDoorJ20
import Derived.Test.YtnbgmeamdkggeaaGreatDoorLayQ
import Derived.Test.YtnbgmeamdkggeaaGreatDoorJ15
import Derived.Test.YtnbgmeamdkggeaaGreatDoorJ06
set_option maxRecDepth 20000
set_option maxHeartbeats 4000000
set_option linter.unusedVariables false
set_option linter.unusedSectionVars false
set_option linter.unusedSimpArgs false
set_option linter.defProp false
set_option linter.unnecessarySimpa false
namespace Go.Gr
open Go.Abs Go.Proofs List
def zCX(s:di)(c:UInt8):fu Pg 318 [.one (.str s),.one (.str ⟨#[c]⟩)] (.one (.int .i64 (s.data.toList.count c))):=by
 refine⟨by decide+kernel,λh w argsC hp hG hS r=>?_⟩
 match argsC,r with
 |[v,u],r=>
  simp only[ja,jZ,Abs.RepD,and_true]at r;obtain⟨⟨rfl,hs⟩,rfl,_⟩:=r;refine(Tryz.strings_Count_one s c w).mono λe w' q=>?_;obtain⟨rfl,rfl⟩:=q;refine⟨_,h,rfl,eZ h,λB hB=>rfl,hp,aK _,λB hB=>rfl,⟨rfl,rfl,rfl⟩,?_⟩;simp only[jZ,Abs.RepD,Kw,Ky];have h1:s.data.toList.count c<=s.data.toList.length:=count_le_length;have h2:s.data.toList.length=s.size:=by simp
  unfold zao at hs;refine⟨rfl,by omega,by omega⟩
def sN(b:UInt8):List UInt8:=if wm b.toNat=[]then [b]else wm b.toNat
def iC(l:List UInt8):List UInt8:=l.flatMap sN
def vJ(s:di):di:=⟨(iC s.data.toList).toArray⟩
def EP(b:UInt8):(wo b.toNat=Gn/\sN b=[b]/\b≠9/\b≠10/\b≠34/\b≠92)\/∃x y:UInt8,wo b.toNat=.sl false 1 [[.int .u8 x.toNat],[.int .u8 y.toNat]]/\sN b=[x,y]/\(b=9\/b=10\/b=34\/b=92):=by
 have hn:∀k:UInt8,b≠k->b.toNat≠k.toNat:=λk h e=>h (UInt8.toNat.inj e);by_cases h1:b=9
 ·subst h1;exact .inr ⟨92,116,rfl,rfl,.inl rfl⟩
 by_cases h2:b=10
 ·subst h2;exact .inr ⟨92,110,rfl,rfl,.inr (.inl rfl)⟩
 by_cases h3:b=34
 ·subst h3;exact .inr ⟨92,34,rfl,rfl,.inr (.inr (.inl rfl))⟩
 by_cases h4:b=92
 ·subst h4;exact .inr ⟨92,92,rfl,rfl,.inr (.inr (.inr rfl))⟩
 have k1:b.toNat≠9:=hn 9 h1;have k2:b.toNat≠10:=hn 10 h2;have k3:b.toNat≠34:=hn 34 h3;have k4:b.toNat≠92:=hn 92 h4;have e:wm b.toNat=[]:=by unfold wm;rw[aA k1,aA k2,aA k3,aA k4]
 exact .inl ⟨by unfold wo;rw[aB e],by unfold sN;rw[aB e],h1,h2,h3,h4⟩
def zwE(a b:List UInt8):iC (a++b)=iC a++iC b:=flatMap_append
def Ju(a:UInt8)(b:List UInt8):iC (a::b)=sN a++iC b:=flatMap_cons
def zwF(l:List UInt8):(iC l).length=l.length+l.count 9+l.count 10+l.count 34+l.count 92:=by
 induction l with
 |nil=>rfl
 | cons b l ih=>
  rw[Ju,aR,ih,length_cons];simp only[count_cons];rcases EP b with⟨_,e,h1,h2,h3,h4⟩|⟨x,y,_,e,h⟩
  ·rw[e];simp[h1,h2,h3,h4];omega
  ·rw[e];rcases h with rfl|rfl|rfl|rfl;all_goals (simp;omega)
def Jv(l:List UInt8):l.length<=(iC l).length:=by rw[zwF];omega
def Jw(l:List UInt8):(iC l).length<=2*l.length:=by
 induction l with
 |nil=>simp[iC]
 |cons b l ih=>
  rw[Ju,aR,length_cons];rcases EP b with⟨_,e,_⟩|⟨x,y,_,e,h⟩<;>rw[e]<;>simp<;>omega
def zBj(l:List UInt8)(h:(iC l).length=l.length):iC l=l:=by
 induction l with
 |nil=>rfl
 | cons b l ih=>
  rw[Ju,aR,length_cons]at h;have:=Jv l;rcases EP b with⟨_,e,_⟩|⟨x,y,_,e,_⟩
  ·rw[e]at h;rw[Ju,e,ih (by simp at h;omega)];try rfl
  ·rw[e]at h;simp at h;omega
def QE(l:List UInt8)(i:Nat)(h:i<l.length):iC (l.take (i+1))=iC (l.take i)++sN l[i]:=by
 rw[take_add_one,aD h,zwE];simp[iC]
def zG0{i:Nat}(h:i<256):RB[i]?=some (wo i):=by
 unfold RB;rw[ay (by simpa using h),getElem?_map,getElem?_range h];try rfl
def zF3:RB.length=257:=by simp[RB]
def zF4:RB[256]?=some (.sl false 1 EN):=by
 unfold RB;rw[bC (by simp)];simp
def QF:∀l:List UInt8,ww (l.map λb=>[.d (.int .u8 b.toNat)])=some l
|[]=>rfl
|b::l=>by
 simp only[map_cons,ww,QF l,Option.map_some];simp
abbrev bB(a:List UInt8)(k:Nat):Blk:=.arr 1 ((a.map λb=>[.d (.int .u8 b.toNat)])++replicate k [.d (.int .u8 0)])
def qN:List UInt8:=[9,10,34,92]
def zEP{k:Nat}(h:k<4):EN[k]?=some [.str ⟨#[qN.getD k 0]⟩]:=by
 match k,h with
 |0,_=>rfl
 |1,_=>rfl
 |2,_=>rfl
 |3,_=>rfl
def zCY{k:Nat}(h:k<4):∃x y:UInt8,wo (qN.getD k 0).toNat=.sl false 1 [[.int .u8 x.toNat],[.int .u8 y.toNat]]:=by
 match k,h with
 |0,_=>exact⟨92,116,rfl⟩
 |1,_=>exact⟨92,110,rfl⟩
 |2,_=>exact⟨92,34,rfl⟩
 |3,_=>exact⟨92,92,rfl⟩
def nJ(l:List UInt8)(k:Nat):Nat:=((qN.take k).map λc=>l.count c).sum
def Gs(l:List UInt8){k:Nat}(h:k<4):nJ l (k+1)=nJ l k+l.count (qN.getD k 0):=by
 match k,h with
 |0,_=>simp[nJ,qN]
 |1,_=>simp[nJ,qN]
 |2,_=>simp[nJ,qN,Nat.add_assoc]
 |3,_=>simp[nJ,qN,Nat.add_assoc]
def zF5(l:List UInt8):nJ l 4+l.length=(iC l).length:=by
 rw[zwF];simp[nJ,qN];omega
end Go.Gr
namespace Go.Gr
open Go.Abs Go.Proofs
def QG:List Nat:=[0,1,5,6,30,31,32]
def zjY:MC:=(λx(_:x=gC tt [] [(9,[0,0,0,0,8,4,36,124,252,508,1020,2046,4095,8191])] [] (iL 0 (gB Tryz.f316)))=>x) _ (by dsimp[Tryz.f316])
def QH:List Nat:=[0,1,5,6,10]
def zjZ:MC:=(λx(_:x=gC tt [] [] [] (iL 2 (gB Tryz.f316)))=>x) _ (by dsimp[Tryz.f316])
def EQ:List Nat:=[0,1,12,13,14]
def QI:MC:=(λx(_:x=gC tt [] [(28,[0,0,0,6,0,0,16,80,240,496,1022,2047,4095])] [] (iL 4 (gB Tryz.f316)))=>x) _ (by dsimp[Tryz.f316])
def zj7:MC:=(λx(_:x=gC tt [(1,85)] [] [(0,zjY),(2,zjZ),(4,QI)] (gB Tryz.f316))=>x) _ (by dsimp[Tryz.f316])
def zlx:WT Pg 316 122 zj7 [.tmp 4]:=wT gD Tryz.func316 (by kernel_rfl)
end Go.Gr
namespace Go.Gr
open Go.Abs Go.Proofs List
def zwe{s:di}(h:(iC s.data.toList).length=s.data.toList.length):vJ s=s:=by
 unfold vJ;rw[zBj _ h]
def QJ(l:List UInt8)(i:Nat):(iC (l.take i)).length+(iC (l.drop i)).length=(iC l).length:=by
 rw[<-aR,<-zwE,bW]
abbrev uC(b:UInt8):List AC:=[.d (.int .u8 b.toNat)]
def zEn(A:List UInt8)(k:Nat)(h:0<k):(A.map uC++replicate k [AC.d (.int .u8 0)])[A.length]?=some [AC.d (.int .u8 0)]:=by
 rw[bC (by simp)];simp[h]
def Jy(f:Nat->Nat):(AC.rens f∘λb:UInt8=>[AC.d (.int .u8 b.toNat)])=λb=>[AC.d (.int .u8 b.toNat)]:=by
 funext b;simp
def zzR(A:List UInt8)(n:Nat):(A.map (λb:UInt8=>[AC.d (.int .u8 b.toNat)])++replicate (n-A.length) [AC.d (.int .u8 0)]).drop (A.length+2)=replicate (n-(A.length+2)) [AC.d (.int .u8 0)]:=by
 rw[drop_append,bN (by simp),ah,nil_append,drop_replicate];congr 1;omega
def zCx(n:Nat)(k:Nat)(h:k+1<=n)(x z:List AC):(replicate (n-k) z).set 0 x=x::replicate (n-(k+1)) z:=by
 rw[show n-k=(n-(k+1))+1 from by omega,replicate_succ,set_cons_zero]
def yO(s:di)(b:UInt8):Nat:=s.data.toList.count b
def zCy(s:di)(c:UInt8):fu Pg 318 [.one (.str s),.one (.str ⟨#[c]⟩)] (.one (.int .i64 (yO s c))):=zCX s c
theorem zGP(s:di)(h:s.size<=64):fu Pg 316 [.one (.rp RB 0),.one (.str s)] (.one (.str (vJ s))):=by
 show fu Pg 316 _ _;refine zlx (by simp) λo c hN hp=>?_;have hr:∀k:256<RB.length,RB[256]=.sl false 1 EN:=λk=>getElem_eq_iff k|>.2 zF4;have hl:=zF3;have t4:EN.length=4:=rfl;have ta:=@zEP;have ra:=@zG0;generalize hRB:RB=rb at*
 generalize hTR:EN=tr at*
 unfold zj7;simp[hr,hl,t4];apply fM<;>intro g
 ·have hw:IntKind.i64.wrap 32=32:=rfl;simp only[hw]at g;have hb:=Jw s.data.toList;have hsz:s.data.toList.length=s.size:=by simp
  have hq4:=zF5 s.data.toList;have a0:=Gs s.data.toList (k:=0) (by decide);have a1:=Gs s.data.toList (k:=1) (by decide);have a2:=Gs s.data.toList (k:=2) (by decide);have a3:=Gs s.data.toList (k:=3) (by decide);simp only[Nat.zero_add,Nat.reduceAdd]at a0 a1 a2 a3;have hmono:∀k,k<=4->nJ s.data.toList k<=64:=by
   intro k hk;have:k=0\/k=1\/k=2\/k=3\/k=4:=by omega
   rcases this with rfl|rfl|rfl|rfl|rfl<;>omega
  refine eQ gD hp QG [5,6,32] (λk:Nat=>k<=4) (λk=>[.c (.d (.int .i64 (s.size+nJ s.data.toList k))),.c (.d (.bool (decide (nJ s.data.toList k≠0)))),.c (.d (.int .i64 k))]) (λk=>[]) (λk=>4-k) 0 [] (by simp) (by simp[QG,nJ]) λk hk=>?_;unfold zjY QG;simp[t4];apply fM<;>intro g1
  ·have hk4:k<4:=by simp at g1;omega
   have tk:∀j:k<tr.length,tr[k]=[D.str {data:=#[qN.getD k 0]}]:=λj=>getElem_eq_iff j|>.2 (ta hk4);have hcs:nJ s.data.toList (k+1)=nJ s.data.toList k+yO s _:=Gs s.data.toList hk4;have hm1:=hmono (k+1) (by omega);obtain⟨x,y,hxy⟩:=zCY hk4;generalize qN.getD k 0=b at*
   have hb256:b.toNat<256:=b.toNat_lt;have rq:rb[b.toNat]?=some (.sl false 1 [[.int .u8 x.toNat],[.int .u8 y.toNat]]):=(ra hb256).trans (bu some hxy);simp[hk4,tk,t4];refine fU (zCy s b) ?_;simp;apply fM<;>intro g2
   ·have hc0:yO s b≠0:=by simpa using g2
    refine⟨by omega,?_⟩;rw[rq];refine⟨by decide,?_⟩;refine dm (k+1) [] hk4 (by omega) ?_;simp[hcs];refine⟨?_,.inr hc0,wI⟩;rw[show IntKind.i64.wrap 1=1 from rfl,Int.mul_one,wI (n:=(yO s b:Int)),wI];omega
   ·have hc0:yO s b=0:=by simpa using g2
    refine dm (k+1) [] hk4 (by omega) ?_;simp[hcs,hc0];exact wI
  ·have hk4:k=4:=by simp at g1;omega
   subst hk4;simp;apply fM<;>intro g2
   ·have h4:nJ s.data.toList 4=0:=by simpa using g2
    exact(zwe (by omega)).symm
   ·refine⟨by omega,by omega,?_⟩;have e:((s.size:Int)+nJ s.data.toList 4).toNat=(iC s.data.toList).length:=by omega
    simp only[e];refine eQ gD hp EQ [13,14] (λi:Nat=>i<=s.size) (λi=>[.c (.d (.int .i64 (iC (s.data.toList.take i)).length)),.c (.d (.int .i64 i))]) (λi=>[bB (iC (s.data.toList.take i)) ((iC s.data.toList).length-(iC (s.data.toList.take i)).length)]) (λi=>s.size-i) 0 [0] (by simp) (by simp[EQ,iC]) λi hi=>?_;unfold QI EQ;simp;apply fM<;>intro g3
    ·have hi':i<s.size:=by simp at g3;omega
     have hi2:i<s.data.toList.length:=by omega
     have htk:=QE s.data.toList i hi2;have hle:=QJ s.data.toList (i+1);have rv:=ra (i:=(s.data[i]'(by simpa using hi')).toNat) (UInt8.toNat_lt _);have htk:iC (s.data.toList.take (i+1))=iC (s.data.toList.take i)++sN (s.data[i]'(by simpa using hi')):=htk;rcases EP (s.data[i]'(by simpa using hi'))with⟨e1,e2, -⟩|⟨x,y,e1,e2, -⟩
     ·rw[e1]at rv;rw[e2]at htk;simp[hi',rv];have hk:(iC (s.data.toList.take i)).length+1<=(iC s.data.toList).length:=by rw[htk,aR,length_singleton]at hle;omega
      refine⟨by have:=UInt8.toNat_lt (s.data[i]'(by simpa using hi'));omega,hk,?_⟩;rw[zEn _ _ (by omega)];refine dm (i+1) [0] hi' (by omega) ?_;simp[htk,Jy];refine⟨⟨wI,wI⟩,zCx _ _ hk _ _⟩
     ·rw[e1]at rv;rw[e2]at htk;simp[hi',rv];have hk:(iC (s.data.toList.take i)).length+2<=(iC s.data.toList).length:=by rw[htk,aR,show [x,y].length=2 from rfl]at hle;omega
      have hub:=UInt8.toNat_lt (s.data[i]'(by simpa using hi'));refine⟨by omega,by omega,by omega,by omega,by decide,?_⟩;refine dm (i+1) [0] hi' (by omega) ?_;simp[htk,Jy];refine⟨⟨wI,wI⟩,zzR _ _⟩
    ·have hi':i=s.size:=by simp at g3;omega
     subst hi';have htk:s.data.toList.take s.size=s.data.toList:=aH (by omega);simp[htk];refine xS.mk (iC s.data.toList) (by rw[aH (by simp)];exact QF _) (by simp only[zao];omega) ?_;simp[vJ]
 ·have hw:IntKind.i64.wrap 32=32:=rfl;simp only[hw]at g;have hb:=Jw s.data.toList;have hsz:s.data.toList.length=s.size:=by simp
  have hge:=λl=>Jv l;refine eQ gD hp QH [5,6,10] (λi:Nat=>i<=s.size) (λi=>[.c (.d (.int .i64 (s.size+(iC (s.data.toList.take i)).length-i))),.c (.d (.bool (decide ((iC (s.data.toList.take i)).length≠i)))),.c (.d (.int .i64 i))]) (λi=>[]) (λi=>s.size-i) 0 [] (by simp) (by simp[QH,iC]) λi hi=>?_;unfold zjZ QH;simp;apply fM<;>intro g1
  ·have hi':i<s.size:=by simp at g1;omega
   have hi2:i<s.data.toList.length:=by omega
   have htk:=QE s.data.toList i hi2;have hle:=QJ s.data.toList (i+1);have hg:=Jv (s.data.toList.take i);have hg2:=Jw (s.data.toList.take i);have hlt:(s.data.toList.take i).length=i:=by rw[bU];omega
   have rv:=ra (i:=(s.data[i]'(by simpa using hi')).toNat) (UInt8.toNat_lt _);have htk:iC (s.data.toList.take (i+1))=iC (s.data.toList.take i)++sN (s.data[i]'(by simpa using hi')):=htk;have hub:=UInt8.toNat_lt (s.data[i]'(by simpa using hi'));rcases EP (s.data[i]'(by simpa using hi'))with⟨e1,e2, -⟩|⟨x,y,e1,e2, -⟩
   ·rw[e1]at rv;rw[e2]at htk;simp[hi',rv];refine⟨by omega,?_⟩;refine dm (i+1) [] hi' (by omega) ?_;simp[htk];exact⟨by omega,wI⟩
   ·rw[e1]at rv;rw[e2]at htk;simp[hi',rv];refine⟨by omega,?_⟩;refine dm (i+1) [] hi' (by omega) ?_;simp[htk];refine⟨?_,by omega,wI⟩;rw[show IntKind.i64.wrap 1=1 from rfl,wI];omega
  ·have hi':i=s.size:=by simp at g1;omega
   subst hi';have htk:s.data.toList.take s.size=s.data.toList:=aH (by omega);simp[htk];apply fM<;>intro g2
   ·have h4:(iC s.data.toList).length=s.size:=by simpa using g2
    exact(zwe (by omega)).symm
   ·have:=Jv s.data.toList;refine⟨by omega,by omega,?_⟩;have e:((s.size:Int)+(iC s.data.toList).length).toNat-s.size=(iC s.data.toList).length:=by omega
    simp only[e];refine eQ gD hp EQ [13,14] (λi:Nat=>i<=s.size) (λi=>[.c (.d (.int .i64 (iC (s.data.toList.take i)).length)),.c (.d (.int .i64 i))]) (λi=>[bB (iC (s.data.toList.take i)) ((iC s.data.toList).length-(iC (s.data.toList.take i)).length)]) (λi=>s.size-i) 0 [0] (by simp) (by simp[EQ,iC]) λi hi=>?_;unfold QI EQ;simp;apply fM<;>intro g3
    ·have hi':i<s.size:=by simp at g3;omega
     have hi2:i<s.data.toList.length:=by omega
     have htk:=QE s.data.toList i hi2;have hle:=QJ s.data.toList (i+1);have rv:=ra (i:=(s.data[i]'(by simpa using hi')).toNat) (UInt8.toNat_lt _);have htk:iC (s.data.toList.take (i+1))=iC (s.data.toList.take i)++sN (s.data[i]'(by simpa using hi')):=htk;rcases EP (s.data[i]'(by simpa using hi'))with⟨e1,e2, -⟩|⟨x,y,e1,e2, -⟩
     ·rw[e1]at rv;rw[e2]at htk;simp[hi',rv];have hk:(iC (s.data.toList.take i)).length+1<=(iC s.data.toList).length:=by rw[htk,aR,length_singleton]at hle;omega
      refine⟨by have:=UInt8.toNat_lt (s.data[i]'(by simpa using hi'));omega,hk,?_⟩;rw[zEn _ _ (by omega)];refine dm (i+1) [0] hi' (by omega) ?_;simp[htk,Jy];refine⟨⟨wI,wI⟩,zCx _ _ hk _ _⟩
     ·rw[e1]at rv;rw[e2]at htk;simp[hi',rv];have hk:(iC (s.data.toList.take i)).length+2<=(iC s.data.toList).length:=by rw[htk,aR,show [x,y].length=2 from rfl]at hle;omega
      have hub:=UInt8.toNat_lt (s.data[i]'(by simpa using hi'));refine⟨by omega,by omega,by omega,by omega,by decide,?_⟩;refine dm (i+1) [0] hi' (by omega) ?_;simp[htk,Jy];refine⟨⟨wI,wI⟩,zzR _ _⟩
    ·have hi':i=s.size:=by simp at g3;omega
     subst hi';have htk:s.data.toList.take s.size=s.data.toList:=aH (by omega);simp[htk];refine xS.mk (iC s.data.toList) (by rw[aH (by simp)];exact QF _) (by simp only[zao];omega) ?_;simp[vJ]
end Go.Gr
namespace Go.Gr
open Go.Abs Go.Proofs
noncomputable def zEm:List (Nat × Func):=[(63,Tryz.f63),(107,Tryz.f107),(108,Tryz.f108),(152,Tryz.f152),(153,Tryz.f153),(154,Tryz.f154),(155,Tryz.f155),(156,Tryz.f156),(185,Tryz.f185),(186,Tryz.f186),(187,Tryz.f187),(188,Tryz.f188),(189,Tryz.f189),(190,Tryz.f190),(210,Tryz.f210),(213,Tryz.f213),(214,Tryz.f214),(215,Tryz.f215)]
noncomputable def QK:Go.Abs.TE:=λf=>(Jq zEm f).map hN
def QL:List (Nat × Func)->Prop
|[]=>True
|(i,f)::l=>(Pg.funcs[i]?=some f/\tF Pg f (hN f).1 (hN f).2.1 (hN f).2.2=true)/\QL l
def zCm:∀{l:List (Nat × Func)} {n:Nat} {f:Func},QL l->Jq l n=some f->Pg.funcs[n]?=some f/\tF Pg f (hN f).1 (hN f).2.1 (hN f).2.2=true
| (i,g)::l,n,f,h,e=>by
 unfold Jq at e;split at e
 ·rename_i q;cases e;subst q;exact h.1
 ·exact zCm h.2 e
set_option maxRecDepth 100000 in
def zDS:QL zEm:=⟨⟨Tryz.func63,by kernel_rfl⟩,⟨Tryz.func107,by kernel_rfl⟩,⟨Tryz.func108,by kernel_rfl⟩,⟨Tryz.func152,by kernel_rfl⟩,⟨Tryz.func153,by kernel_rfl⟩,⟨Tryz.func154,by kernel_rfl⟩,⟨Tryz.func155,by kernel_rfl⟩,⟨Tryz.func156,by kernel_rfl⟩,⟨Tryz.func185,by kernel_rfl⟩,⟨Tryz.func186,by kernel_rfl⟩,⟨Tryz.func187,by kernel_rfl⟩,⟨Tryz.func188,by kernel_rfl⟩,⟨Tryz.func189,by kernel_rfl⟩,⟨Tryz.func190,by kernel_rfl⟩,⟨Tryz.func210,by kernel_rfl⟩,⟨Tryz.func213,by kernel_rfl⟩,⟨Tryz.func214,by kernel_rfl⟩,⟨Tryz.func215,by kernel_rfl⟩,trivial⟩
def zGK:∀f N mc rs,QK f=some (N,mc,rs)->∃fn,Pg.funcs[f]?=some fn/\tF Pg fn N mc rs=true:=λf N mc rs h=>by
 unfold QK at h;simp only[aJ]at h;obtain⟨g,h1,h2⟩:=h;obtain⟨k1,k2⟩:=zCm zDS h1;rw[h2]at k2;exact⟨g,k1,k2⟩
def X0:CE:=λ_ _ _=>none
def zHI:∀f az bb v bb',X0 f az bb=some (v,bb')->MCall Pg f az bb v bb':=λf az bb v bb' h=>by cases h
abbrev Cr(k:Int):fZ:=.mk k (bs []) [] []
noncomputable def Jz (a b:fZ) (n:Int):Option DV:=Pt QK X0 2000 30 63 [.agg a.enc,.agg b.enc,.one (.int .i64 n)]
abbrev yP(l:List Int):iJ:=.mk l [] [] [] []
set_option maxRecDepth 100000 in
theorem mk1:(Jz (Cr 3) (Cr 0) 2).map DV.er=some (.agg (yP [0,0,0,0,0,0]).enc):=by kernel_rfl
set_option maxRecDepth 100000 in
theorem mk2:(Jz (Cr 4) (Cr 0) 2).map DV.er=some (.agg (yP [0,0,0,0,0,0]).enc):=by kernel_rfl
set_option maxRecDepth 100000 in
theorem mk3:(Jz (Cr 0) (Cr 3) 4).map DV.er=some (.agg (yP [4,4,0,4,4,4]).enc):=by kernel_rfl
def QM{a b:fZ}{n:Int}{v:DV}(h:(Jz a b n).map DV.er=some v):fu Pg 63 [.agg a.enc,.agg b.enc,.one (.int .i64 n)] v:=by
 simp only[aJ]at h;obtain⟨u,e1,rfl⟩:=h;exact zgK gD zGK zHI (zFc e1)
def Cs(k:Int):fZ->Bool
|.mk k' nm [] []=>decide (k'=k)&&nm.size==0
|_=>false
def Gt{k:Int}{a:fZ}(h:Cs k a=true):a=Cr k:=by
 unfold Cs at h;split at h
 ·rename_i k' nm;simp only[aC,aI,aV]at h;obtain⟨rfl,h⟩:=h;have:nm=bs []:=ByteArray.size_eq_zero_iff.1 h;rw[this]
 ·cases h
def vK(a b:fZ)(n:Int):Option (List Int):=
 if(Cs 0 b&&decide (n=2)&&(Cs 3 a||Cs 4 a))=true then some [0,0,0,0,0,0]
 else if(Cs 0 a&&Cs 3 b&&decide (n=4))=true then some [4,4,0,4,4,4]else none
def zzJ(a b:fZ)(n:Int)(l:List Int)(h:vK a b n=some l):(∃C:iJ,fu Pg 63 [.agg a.enc,.agg b.enc,.one (.int .i64 n)] (.agg C.enc)/\C.tags=l/\C.needs=[]/\4<=l.length)/\∀x,x∈l->0<=x/\x<=1000000000:=by
 unfold vK at h;split at h
 ·rename_i g;cases h;simp only[aC,bS,aI]at g;obtain⟨⟨g1,rfl⟩,g2⟩:=g;cases Gt g1;refine⟨⟨yP [0,0,0,0,0,0],?_,rfl,rfl,by decide⟩,by decide⟩;rcases g2 with g2|g2
  ·cases Gt g2;exact QM mk1
  ·cases Gt g2;exact QM mk2
 ·split at h
  ·rename_i g;cases h;simp only[aC,aI]at g;obtain⟨⟨g1,g2⟩,rfl⟩:=g;cases Gt g1;cases Gt g2;exact⟨⟨yP [4,4,0,4,4,4],QM mk3,rfl,rfl,by decide⟩,by decide⟩
  ·cases h
abbrev uH(t:di):List (di × di):=[(bs [109,97,105,110],t)]
def Gu(X:jP)(N:Nat)(t:di):O Val:=match(ll (uH t)).2,decide (0<=(ll (uH t)).1.main),(ll (uH t)).1.funs[(ll (uH t)).1.main.toNat]? with
|true,true,some f=>iG X (ll (uH t)).1.funs zi0 N f.body [.null] (pO [] 100)
|_,_,_=>.bad
def kJ.erdLL(f:kJ):D.erdL f.enc=f.enc:=by
 unfold kJ.enc;simp only[D.erdL,D.erd,UO,fZ.erdLL,fw.erdLL]
def Site.erdLL(f:Site):D.erdL f.enc=f.enc:=by
 unfold Site.enc;simp only[D.erdL,D.erd]
def kK.erdLL(p:kK):D.erdL p.enc=p.enc:=by
 unfold kK.enc;simp only[D.erdL,D.erd,erdE_map _ kJ.erdLL,erdE_map _ Site.erdLL]
def QN{X:jP}(hX:ji X zi0){t:di}{N:Nat}{r:O Val}(he:Gu X N t=r)(hr:r≠.bad):fu Pg 7 [.one (.str t)] (sM (r.bind λv s=>.ok (X.told v) s)):=by
 unfold Gu at he;split at he
 case h_2=>exact absurd he.symm hr
 case h_1 f h1 h2 h3=>
 refine zCf (by simp) λo cx hN hp=>?_;have mp:=fu.erd (args:=[.one (.sl true 2 [[.str (bs [109,97,105,110]),.str t]])]) (Xu (uH t)) (by simp[DV.erds,DV.erd,D.erd,D.erdE,D.erdL,kZ]);have mr:=fu.erd (args:=[.agg (ll (uH t)).1.enc,.one (.sl true 1 []),.one (.int .i64 100)]) (zB8 h1 hX [] 100 (by decide) (of_decide_eq_true h2) h3 N (by rw[he];exact hr)) (by simp[DV.erds,DV.erd,D.erd,D.erdE,D.erdL,encI,kK.erdLL]);rw[he]at mr;generalize ll (uH t)=p at*
 obtain⟨p,ok⟩:=p;simp only at h1 mr;subst h1;have e4:∃l w z s,sM (r.bind λv s=>.ok (X.told v) s)=.agg [.sl false 1 l,.int .i64 w,.int .i64 z,.str s]:=by
  cases r with
  |ok v s=>exact⟨_,_,_,_,rfl⟩
  |over w z s=>exact⟨_,_,_,_,rfl⟩
  |bad=>exact absurd rfl hr
 obtain⟨l,w,z,s,e4⟩:=e4;rw[e4]at mr⊢;unfold zuE;simp;refine fU mp ?_;simp;refine fU mr ?_;simp[D.er]
abbrev txA:di:=bs [102,110,32,109,97,105,110,40,120,41,32,61,32,108,101,116,32,97,32,61,32,112,114,105,110,116,40,49,41,59,32,55,32,47,32,50,59]
abbrev txB:di:=bs [102,110,32,109,97,105,110,40,120,41,32,61,32,49,32,47,32,48,59]
abbrev txC:di:=bs [102,110,32,102,40,120,41,32,61,32,120,59,32,102,110,32,109,97,105,110,40,120,41,32,61,32,102,40,34,97,34,41,32,43,32,49,59]
set_option maxRecDepth 100000 in
theorem exA:(λq=>Gu (BJ q vK) 40 txA)=λq=>.ok (.int 3) ⟨[],100,[J5++uV 1],0⟩:=by kernel_rfl
set_option maxRecDepth 100000 in
theorem exB:(λq=>Gu (BJ q vK) 40 txB)=λq=>.over 2 1 ⟨[],100,[],0⟩:=by kernel_rfl
set_option maxRecDepth 100000 in
theorem QO:(λq=>Gu (BJ q vK) 40 txC)=λq=>.over 1 4 ⟨[],99,[],0⟩:=by kernel_rfl
def QP:uV 1=bs [49]:=by
 rw[uV,aB (by decide),Lib.itoa,aA (by decide),show(1:Int).toNat=1 from rfl,Lib.decDigits,dif_pos (by decide)];try rfl
def QQ:uV 3=bs [51]:=by
 rw[uV,aB (by decide),Lib.itoa,aA (by decide),show(3:Int).toNat=3 from rfl,Lib.decDigits,dif_pos (by decide)];try rfl
set_option maxRecDepth 100000 in
def zAf{q:di->di}(hq:qL q):fu Pg 4 [] (.one (.bool true)):=by
 have hX:=zwD hq (cst:=vK) (λa b n l e=>(zzJ a b n l e).1) (λa b n l e=>(zzJ a b n l e).2);have ha:=QN hX (congrFun exA q) (λe=>by cases e);have hb:=QN hX (congrFun exB q) (λe=>by cases e);have hc:=QN hX (congrFun QO q) (λe=>by cases e);have e1:sM (O.bind (.ok (.int 3) (⟨[],100,[J5++uV 1],0⟩:RS)) λv s=>.ok ((BJ q vK).told v) s)=.agg [.sl false 1 [[.str (bs [112,114,105,110,116,32,49])]],.int .i64 0,.int .i64 0,.str (bs [51])]:=by
  show DV.agg [.sl false 1 [[.str (J5++uV 1)]],.int .i64 0,.int .i64 0,.str (uV 3)]=_;rw[QP,QQ];try rfl
 rw[e1]at ha;refine zyU (by simp) λo cx hN hp=>?_;unfold zrB;simp;refine fU ha ?_;simp;refine fU hb ?_;simp[O.bind,sM];refine fU hc ?_;simp[O.bind,sM]
def Gv(s:di):di:=bs [34]++vJ s++bs [34]
def zzn(s:di)(h:s.size<=64):(vJ s).size<=1000:=by
 have h1:=Jw s.data.toList;have h2:s.data.toList.length=s.size:=by simp
 show(iC s.data.toList).toArray.size<=1000;simp only[List.size_toArray];omega
theorem zBN:qL Gv:=⟨λs h=>zD1 (zGP s h) (zzn s h),λs h=>by
 have h1:=zzn s h;have b1:(bs [34]).size=1:=rfl;unfold Gv;rw[aY,aY,b1]
 omega⟩
def RunStatic_ok(l:List (di × di))(input:List Int)(fuel:Int):
  fu Pg 3 [.one (.sl false 2 (l.map kZ)),.one (.sl false 1 (encI input)),.one (.int .i64 fuel)] (.one (.bool true)):=
 zxK (zAf zBN) zBN l input fuel
end Go.Gr
